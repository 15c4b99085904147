import Derived.Test.YtfgjimpmpckgpaaGreatDoorSg36
import Derived.Test.YtfgjimpmpckgpaaGreatDoorSg14
import Derived.Test.YtfgjimpmpckgpaaGreatDoorSg13
import Derived.Deep.RegionHeld3
set_option linter.unusedSimpArgs false
set_option linter.unusedVariables false
set_option maxRecDepth 200000
set_option maxHeartbeats 8000000
namespace Go.Proofs.YtfgjimpmpckgpaaGreatDoor
section
open Go.RowKit Go.OpenShut
def AgreeTo (b : BoxD) (j : Nat) : Prop := ∀ (i : Nat) e, i < j -> b.trail[i]? = some e -> (findJ b.objs e.id).isSome = (lastW b.trail e.id != 3)
theorem refRightS_any (b : BoxD) (r : RB) (w : World) (hb : BoxOf w w.heap.size b r) (ob : b.Ok) :
 Calls Tryz.prog 47 #[r.val] w (Said w (RightQ b)) := by
 have ho := hb.objs
 have htr := hb.trail
 have hkp := hb.keep
 have hsq := hb.seq
 have hfl := hb.floor
 have hb0 := hb
 obtain ⟨po, no, co, pt, nt, ct, sq, fl, kp⟩ := r
 dsimp only [RB.val] at *
 obtain ⟨rms, hrd, hms⟩ := ho
 have hn := rd_nlen hrd
 have hlm := hms.len
 have hnt := htr.nlen
 have hzo := ob.objs
 have hzt := ob.trail
 have hA0 : BoxAt (w.alloc (.cells #[.slice po no co, .slice pt nt ct, .int .i64 sq, .int .i64 fl, .int .i64 kp] 25)) w.heap.size ⟨po, no, co, pt, nt, ct, sq, fl, kp⟩ := heap_alloc_at rfl
 have hB0 : Below w.heap.size w (w.alloc (.cells #[.slice po no co, .slice pt nt ct, .int .i64 sq, .int .i64 fl, .int .i64 kp] 25)) := (Below.refl _ _).alloc (Nat.le_refl _) _
 have HRD := Lib.hid hrd
 have HMS := Lib.hid hms
 have HTR := Lib.hid htr
 have HBX := Lib.hid hb0
 have HOB := Lib.hid ob
 have HN : Hid (b.objs.length = no /\ rms.length = no /\ b.trail.length = nt) := ⟨by omega, by omega, hnt⟩
 have HEQ : Hid (b.keep = kp /\ b.seq = sq /\ b.floor = fl) := ⟨hkp, hsq, hfl⟩
 have hno : no <= 1466015503658 := by omega
 have hnt2 : nt <= 4398046510976 := by omega
 clear hb hrd hms htr hn hlm hnt hzo hzt hkp hsq hfl hb0 ob
 go_enter Tryz.func47, Tryz.ntmps47
 go_upto_region 1 with fail
 obtain ⟨W0, hW0⟩ : ∃ W0, (w.alloc (.cells #[.slice po no co, .slice pt nt ct, .int .i64 sq, .int .i64 fl, .int .i64 kp] 25)) = W0 := ⟨_, rfl⟩
 rw [hW0] at hA0 hB0 ⊢
 clear hW0
 have HA := Lib.hid hA0
 have HB := Lib.hid hB0
 have hz := hA0.lt
 have c0 := hA0.cell 0 rfl
 dsimp only at c0
 clear hA0 hB0
 go_wp2_with fail
 go_loopw [3] (fun i wr => ∃ j : Nat, i = .int .i64 (j : Int) /\ j <= no /\ RisingTo b.objs j /\ Below W0.heap.size W0 wr) (fun i _ => no + 1 - (intOf i).toNat)
 case atStart => exact ⟨0, rfl, Nat.zero_le _, fun i p q h => by omega, Below.refl _ _⟩
 case round =>
  obtain ⟨j, rfl, hj, hri, hbr⟩ := hrel
  have c0 := bcs hbr hz c0
  by_cases hlt : j < no
  ·cases j with
   | zero =>
     have HRI : RisingTo b.objs (0 + 1) := fun i p q h => by omega
     have hd0 : decide ((0 : Int) < ((0 : Nat) : Int)) = false := by decide
     have hj1 : ((0 : Nat) : Int) < (no : Int) := by omega
     have HBR := Lib.hid hbr
     clear hri hbr
     go_wp2_with fail
     go_quiet (fail)
     go_wp2_with fail
     go_roundw
     case rel => exact ⟨0 + 1, by go_num, by omega, HRI, bdn HBR.out _⟩
     case measure => simp [intOf]; try omega
   | succ j =>
   obtain ⟨x, hx⟩ : ∃ x, rms[j]? = some x := ⟨_, List.getElem?_eq_getElem (by have := HN.out; omega)⟩
   obtain ⟨y, hy⟩ : ∃ x, rms[j + 1]? = some x := ⟨_, List.getElem?_eq_getElem (by have := HN.out; omega)⟩
   obtain ⟨p, hp⟩ : ∃ x, b.objs[j]? = some x := ⟨_, List.getElem?_eq_getElem (by have := HN.out; omega)⟩
   obtain ⟨q, hq⟩ : ∃ x, b.objs[j + 1]? = some x := ⟨_, List.getElem?_eq_getElem (by have := HN.out; omega)⟩
   have hpn := HMS.out.name _ p x hp hx
   have hqn := HMS.out.name _ q y hq hy
   have hbw : Below w.heap.size w wr := HB.out.trans (hbr.mono HB.out.size)
   obtain ⟨b1, o1, hpo, hb1, hc1⟩ := rd_at' (HRD.out.below hbw (Nat.le_refl _)) hx
   obtain ⟨b2, o2, hpo2, hb2, hc2⟩ := rd_at' (HRD.out.below hbw (Nat.le_refl _)) hy
   rw [hpo] at hpo2
   simp only [Option.some.injEq, Addr.mk.injEq, and_true] at hpo2
   obtain ⟨rfl, rfl⟩ := hpo2
   subst hpo
   have f0 := hc1 0 _ rfl
   have g0 := hc2 0 _ rfl
   rw [Nat.add_zero] at f0 g0
   have hless := less_cmp y.name x.name
   have heq := str_beq y.name x.name
   rw [<- hpn, <- hqn] at hless heq
   have hj0 : (0 : Int) <= (j : Int) := Int.natCast_nonneg _
   have hj1 : (j : Int) < (no : Int) := by omega
   have hj2 : (0 : Int) <= (j : Int) + 1 := by omega
   have hj3 : (j : Int) + 1 < (no : Int) := by omega
   have htn : ((j : Int) + 1).toNat = j + 1 := by omega
   have hw2 : (j : Int) + 1 - 1 = (j : Int) := by omega
   have hd0 : decide ((0 : Int) < (j : Int) + 1) = true := by simp
   have hd : decide ((j : Int) + 1 < (no : Int)) = true := by simpa using hj3
   have HBR := Lib.hid hbr
   rw [hpn, hqn] at hless heq
   by_cases hc : cmpN p.1 q.1 < 0
   ·have HRI : RisingTo b.objs (j + 1 + 1) := by
     intro i p' q' hi hp' hq'
     by_cases e : i = j
     ·subst e
      rw [hp] at hp'
      rw [hq] at hq'
      cases hp'; cases hq'
      exact hc
     ·exact hri i p' q' (by omega) hp' hq'
    have hl : Op.bytesLess y.name.toList x.name.toList = false := by
     rw [hless, <- hpn, <- hqn]
     have := cmpN_neg p.1 q.1
     simp; omega
    have he : (y.name.toList == x.name.toList) = false := by
     rw [heq, <- hpn, <- hqn]
     have := cmp_ne hc
     simpa using fun e => this e.symm
    clear hx hy hp hq hpn hqn hc1 hc2 hless hc hri hbr hbw hb2 heq
    push_cast
    go_wp2_with fail
    go_quiet (fail)
    go_wp2_with fail
    go_roundw
    case rel => exact ⟨j + 1 + 1, by go_num, by omega, HRI, bdn HBR.out _⟩
    case measure => simp [intOf]; try omega
   ·have HNO : Hid (¬ RightQ b) := fun h => Rising.no hp hq hc h.1
    have hor : Op.bytesLess y.name.toList x.name.toList = true \/ (Op.bytesLess y.name.toList x.name.toList = false /\ (y.name.toList == x.name.toList) = true) := by
     rw [hless, heq, <- hpn, <- hqn]
     rcases cmp_tri p.1 q.1 with h | h | h
     ·exact absurd h hc
     ·right; rw [h, cmpN_self]; simp
     ·left; simpa using h
    clear hx hy hp hq hpn hqn hc1 hc2 hless hc hri hbw hb2 heq
    push_cast
    rcases hor with hl | ⟨hl, he⟩
    all_goals
     go_wp2_with fail
     go_quiet (fail)
     go_wp2_with fail
     go_ret
     exact ⟨false, rfl, ⟨fun h => (by cases h), fun h => absurd h HNO.out⟩, bdn (HB.out.trans (HBR.out.mono HB.out.size)) _⟩
  ·obtain rfl : no = j := by omega
   have hrs : Rising b.objs := by
    apply RisingTo.all
    intro i p q hi h1 h2
    exact hri i p q (by have := HN.out; omega) h1 h2
   have hd2 : ¬ ((no : Int) < (no : Int)) := by omega
   have hA1 := HA.out.under hbr hz
   have hbw : Below w.heap.size w wr := HB.out.trans (hbr.mono HB.out.size)
   have HRS := Lib.hid hrs
   have HA1 := Lib.hid hA1
   have HBW := Lib.hid hbw
   clear hri hbr hA1 hbw hrs c0
   obtain ⟨c0, c1, c2, c3, c4⟩ := HA1.out.cells5
   dsimp only at c0 c1 c2 c3 c4
   obtain ⟨e1, e2, e3⟩ := HEQ.out
   by_cases h1 : kp < 0
   ·have d1 : decide (kp < 0) = true := by simpa using h1
    have HNO : Hid (¬ RightQ b) := fun h => by have := h.2.1; omega
    clear e1 e2 e3 h1
    go_wp2_with fail
    go_ret
    exact ⟨false, rfl, ⟨fun h => (by cases h), fun h => absurd h HNO.out⟩, HBW.out⟩
   have d1 : decide (kp < 0) = false := by simpa using h1
   by_cases h2 : 1000 < kp
   ·have d2 : decide (1000 < kp) = true := by simpa using h2
    have HNO : Hid (¬ RightQ b) := fun h => by have := h.2.2.1; omega
    clear e1 e2 e3 h1 h2
    go_wp2_with fail
    go_ret
    exact ⟨false, rfl, ⟨fun h => (by cases h), fun h => absurd h HNO.out⟩, HBW.out⟩
   have d2 : decide (1000 < kp) = false := by simpa using h2
   by_cases h3 : kp < (nt : Int)
   ·have d3 : decide (kp < (nt : Int)) = true := by simpa using h3
    have HNO : Hid (¬ RightQ b) := fun h => by have := h.2.2.2.1; have := HN.out; omega
    clear e1 e2 e3 h1 h2 h3
    go_wp2_with fail
    go_ret
    exact ⟨false, rfl, ⟨fun h => (by cases h), fun h => absurd h HNO.out⟩, HBW.out⟩
   have d3 : decide (kp < (nt : Int)) = false := by simpa using h3
   have HK : Hid (0 <= b.keep /\ b.keep <= 1000 /\ (b.trail.length : Int) <= b.keep) := by have := HN.out; unfold Hid; omega
   have hR := refRight_any wr wr.heap.size (.slice pt nt ct) b.trail fl sq (HTR.out.under HBW.out HBW.out.size) (by rw [<- e3]; exact HOB.out.floor) (by rw [<- e2]; exact HOB.out.seq)
   rw [<- e3, <- e2] at hR
   cases hrt : rightB b.trail b.floor b.seq with
   | false =>
     rw [hrt] at hR
     rw [e3, e2] at hR
     have HR := Lib.hid hR
     have HNO : Hid (¬ RightQ b) := fun h => by have := h.2.2.2.2.1; rw [hrt] at this; cases this
     clear e1 e2 e3 h1 h2 h3 hR hrt
     go_wp2_with (go_at_call 88; refine HR.out.mono ?_; rintro e w1 ⟨rfl, n1, rfl⟩)
     go_ret
     exact ⟨false, rfl, ⟨fun h => (by cases h), fun h => absurd h HNO.out⟩, bdn HBW.out _⟩
   | true =>
     rw [hrt] at hR
     rw [e3, e2] at hR
     have HR := Lib.hid hR
     have HRT := Lib.hid hrt
     have hzw : w.heap.size < wr.heap.size := by have := HA1.out.lt; exact this
     clear e1 e2 e3 h1 h2 h3 hR hrt
     go_upto_region 8 with (go_at_call 88; refine HR.out.mono ?_; rintro e w1 ⟨rfl, n1, rfl⟩)
     have HA2 : Hid (BoxAt (wr.drewN n1) w.heap.size ⟨po, no, co, pt, nt, ct, sq, fl, kp⟩) := HA1.out.under (bdn (Below.refl _ _) n1) hzw
     have HB2 : Hid (Below w.heap.size w (wr.drewN n1)) := bdn HBW.out n1
     obtain ⟨W1, hW1⟩ : ∃ W1, wr.drewN n1 = W1 := ⟨_, rfl⟩
     rw [hW1] at HA2 HB2 ⊢
     clear hW1 c0 c1 c2 c3 c4 HA1 HR hzw d1 d2 d3
     have hz1 := HA2.out.lt
     obtain ⟨c0, c1, c2, c3, c4⟩ := HA2.out.cells5
     dsimp only at c0 c1 c2 c3 c4
     go_wp2_with fail
     go_loopw [4] (fun i wr => ∃ j : Nat, j <= nt /\ i = .int .i64 (j : Int) /\ AgreeTo b j /\ Below W1.heap.size W1 wr) (fun i _ => nt - (intOf i).toNat)
     case atStart => exact ⟨0, Nat.zero_le _, rfl, fun i p h => by omega, Below.refl _ _⟩
     case round =>
      obtain ⟨j, hj, rfl, has, hbr⟩ := hrel
      have HA3 := Lib.hid (HA2.out.under hbr hz1)
      have HB3 := Lib.hid (HB2.out.trans (hbr.mono HB2.out.size))
      have hz3 := HA3.out.lt
      clear c0 c1 c2 c3 c4
      obtain ⟨c0, c1, c2, c3, c4⟩ := HA3.out.cells5
      dsimp only at c0 c1 c2 c3 c4
      by_cases hlt : j < nt
      ·obtain ⟨x, hx⟩ : ∃ x, b.trail[j]? = some x := ⟨_, List.getElem?_eq_getElem (by have := HN.out; omega)⟩
       have HRB := Lib.hid ((rdE_iff.1 HTR.out).2.below HB3.out (Nat.le_refl _))
       obtain ⟨b1, o1, hpt, hb1, hc1⟩ := rd_at' HRB.out hx
       subst hpt
       have g1 := hc1 1 _ rfl
       have hj0 : (0 : Int) <= (j : Int) := Int.natCast_nonneg _
       have hj1 : (j : Int) < (nt : Int) := by omega
       have HX := Lib.hid hx
       have HAS := Lib.hid has
       have HBR := Lib.hid hbr
       clear hx hc1 has hbr
       go_wp2_with fail
       go_loopw [5, 6] (fun u i wi => ∃ m : Nat, m <= nt /\ i = .int .i64 m /\ u = .int .i64 (lastW (b.trail.take m) x.id) /\ ∃ n, wi = wr.drewN n) (fun _ i _ => nt - (intOf i).toNat)
       case atStart => exact ⟨0, Nat.zero_le _, rfl, rfl, 0, rfl⟩
       case round =>
        obtain ⟨m, hm, rfl, rfl, ni, rfl⟩ := hrel
        by_cases hmk : m < nt
        ·obtain ⟨y, hy⟩ : ∃ x, b.trail[m]? = some x := ⟨_, List.getElem?_eq_getElem (by have := HN.out; omega)⟩
         obtain ⟨b2, o2, hpo2, hb2, hc2⟩ := rd_at' HRB.out hy
         simp only [Option.some.injEq, Addr.mk.injEq, and_true] at hpo2
         obtain ⟨rfl, rfl⟩ := hpo2
         have k1 := hc2 1 _ rfl
         have k2 := hc2 2 _ rfl
         have hm0 : (0 : Int) <= (m : Int) := Int.natCast_nonneg _
         have hm1 : (m : Int) < (nt : Int) := by omega
         have HS := Lib.hid (lastW_take hy x.id)
         clear hy hc2
         by_cases hid : y.id = x.id
         ·have hq : (y.id.toList == x.id.toList) = true := by rw [hid]; simp
          rw [if_pos hid] at HS
          clear hid
          go_wp2_with fail
          go_quiet (fail)
          go_wp2_with fail
          go_roundw
          case rel => exact ⟨m + 1, by omega, by go_num, by rw [HS.out], _, rfl⟩
          case measure => simp [intOf]; omega
         ·have hq : (y.id.toList == x.id.toList) = false := by rw [str_beq]; simp [hid]
          rw [if_neg hid] at HS
          clear hid
          go_wp2_with fail
          go_quiet (fail)
          go_wp2_with fail
          go_roundw
          case rel => exact ⟨m + 1, by omega, by go_num, by rw [HS.out], _, rfl⟩
          case measure => simp [intOf]; omega
        ·obtain rfl : nt = m := by omega
         have hlw : lastW (b.trail.take nt) x.id = lastW b.trail x.id := by rw [List.take_of_length_le (by have := HN.out; omega)]
         rw [hlw]
         obtain ⟨lw, hlw2⟩ : ∃ z, lastW b.trail x.id = z := ⟨_, rfl⟩
         rw [hlw2]
         have hbn : Below wr.heap.size wr (wr.drewN ni) := bdn (Below.refl _ _) ni
         have HA4 := Lib.hid (HA3.out.under hbn hz3)
         have HB4 := Lib.hid (HB3.out.trans (hbn.mono HB3.out.size))
         have HBR4 := Lib.hid (HBR.out.trans (hbn.mono HBR.out.size))
         have g1 := bcs hbn (by have := HB3.out.size; omega) g1
         obtain ⟨W4, hW4⟩ : ∃ W4, wr.drewN ni = W4 := ⟨_, rfl⟩
         rw [hW4] at HA4 HB4 HBR4 g1 ⊢
         have hz4 := HA4.out.lt
         have hb14 : b1 < W4.heap.size := by have := HB4.out.size; omega
         obtain ⟨f, hf⟩ : ∃ f, (findJ b.objs x.id).isSome = f := ⟨_, rfl⟩
         have HFI : Hid (∀ W, KB W4.heap.size W4 W -> Calls Tryz.prog 89 #[RB.val ⟨po, no, co, some ⟨b1, o1, none⟩, nt, ct, sq, fl, kp⟩, .string x.id] W fun e w' => ∃ q : RV, e = .returned (.tuple #[RV.val q, .bool f]) /\ Below W.heap.size W w') := fun W hk => by
          have hbw := HB4.out.trans (hk.1.mono HB4.out.size)
          refine (refFind_any b _ x.id W (HBX.out.under hbw hbw.size) HOB.out).mono ?_
          rintro e w' ⟨q, rfl, _, hb⟩
          exact ⟨q, by rw [hf], hb⟩
         clear c0 c1 c2 c3 c4 hW4 hbn
         obtain ⟨c0, c1, c2, c3, c4⟩ := HA4.out.cells5
         dsimp only at c0 c1 c2 c3 c4
         have HZA : Hid (VAt (W4.alloc (.cells #[.int .i64 0, .int .i64 0, .string ⟨#[]⟩, .slice none 0 0, .slice none 0 0] 31)).drew W4.heap.size RV.zero) := heap_alloc_at rfl
         by_cases hag : f = (lw != 3)
         ·have HAG : Hid (AgreeTo b (j + 1)) := by
           intro i e hi he
           by_cases h : i = j
           ·subst h
            rw [HX.out] at he
            cases he
            rw [hf, hlw2]
            exact hag
           ·exact HAS.out i e (by omega) he
          have hxr : (lw != 3) = f := hag.symm
          clear hlw hlw2 hf hag
          cases f
          all_goals
           go_wp2_with fail
           go_region_held3 (fun w' => Below W4.heap.size W4 w' /\ ∀ b o, b < W4.heap.size -> w'.cell? ⟨b, o, none⟩ = W4.cell? ⟨b, o, none⟩)
            (first | with_reducible exact kt_drew W4 | with_reducible exact kt_same hbk | with_reducible exact kt_alloc hbk _ | with_reducible exact kt_da W4 _ | (with_reducible refine kt_setV hbk _ _ ?_; first | exact Nat.le_refl _ | (simp; omega) | omega))
            ((go_at_call 89; refine (HFI.out _ (by assumption)).mono ?_; rintro e w2 ⟨q, rfl, hbs⟩; (have hbk := KB.step (W := W4) (by assumption) hbs); (have hs2 := hbk.1.size); (first | ((have HZ9 : VAt w2 W4.heap.size RV.zero := HZA.out.under hbs (by simp)); (obtain ⟨z0, z1, z2, z3, z4⟩ := HZ9.cells5); (have y0 := HZ9.frozen 0); (have y1 := HZ9.frozen 1); (have y2 := HZ9.frozen 2); (have y3 := HZ9.frozen 3); (have y4 := HZ9.frozen 4); dsimp only [RV.zero] at z0 z1 z2 z3 z4) | skip)))
           all_goals
            rename (Below W4.heap.size W4 _ /\ _) => hkb
            go_wp2_with fail
            go_roundw
            case rel => exact ⟨j + 1, by omega, by go_num, HAG.out, HBR4.out.trans (Below.mono (by first | exact hkb.1 | exact (KB.step (W := W4) hkb ((Below.refl _ _).alloc (Nat.le_refl _) _)).1) HBR4.out.size)⟩
            case measure => simp [intOf]; omega
         ·have HNO : Hid (¬ RightQ b) := fun h => hag (by rw [<- hf, <- hlw2]; exact h.2.2.2.2.2 x (List.mem_of_getElem? HX.out))
          have hxr : (lw != 3) = !f := by cases f <;> simp at hag ⊢ <;> exact hag
          clear hlw hlw2 hf hag
          cases f
          all_goals
           go_wp2_with fail
           go_region_held3 (fun w' => Below W4.heap.size W4 w' /\ ∀ b o, b < W4.heap.size -> w'.cell? ⟨b, o, none⟩ = W4.cell? ⟨b, o, none⟩)
            (first | with_reducible exact kt_drew W4 | with_reducible exact kt_same hbk | with_reducible exact kt_alloc hbk _ | with_reducible exact kt_da W4 _ | (with_reducible refine kt_setV hbk _ _ ?_; first | exact Nat.le_refl _ | (simp; omega) | omega))
            ((go_at_call 89; refine (HFI.out _ (by assumption)).mono ?_; rintro e w2 ⟨q, rfl, hbs⟩; (have hbk := KB.step (W := W4) (by assumption) hbs); (have hs2 := hbk.1.size); (first | ((have HZ9 : VAt w2 W4.heap.size RV.zero := HZA.out.under hbs (by simp)); (obtain ⟨z0, z1, z2, z3, z4⟩ := HZ9.cells5); (have y0 := HZ9.frozen 0); (have y1 := HZ9.frozen 1); (have y2 := HZ9.frozen 2); (have y3 := HZ9.frozen 3); (have y4 := HZ9.frozen 4); dsimp only [RV.zero] at z0 z1 z2 z3 z4) | skip)))
           all_goals
            rename (Below W4.heap.size W4 _ /\ _) => hkb
            go_wp2_with fail
            go_ret
            exact ⟨false, rfl, ⟨fun h => (by cases h), fun h => absurd h HNO.out⟩, HB4.out.trans (Below.mono (by first | exact hkb.1 | exact (KB.step (W := W4) hkb ((Below.refl _ _).alloc (Nat.le_refl _) _)).1) HB4.out.size)⟩
      ·obtain rfl : nt = j := by omega
       have hn2 : ¬ ((nt : Int) < (nt : Int)) := by omega
       have HYES : Hid (RightQ b) := ⟨HRS.out, HK.out.1, HK.out.2.1, HK.out.2.2, HRT.out, fun e he => by
        obtain ⟨i, hi⟩ := List.getElem?_of_mem he
        exact has i e (by have := (List.getElem?_eq_some_iff.1 hi).1; have := HN.out; omega) hi⟩
       go_wp2_with fail
       go_ret
       exact ⟨true, rfl, ⟨fun _ => HYES.out, fun _ => rfl⟩, HB3.out⟩
theorem refRight_any18 (b : BoxD) (r : RB) (w : World) (hb : BoxOf w w.heap.size b r) (ob : b.Ok) :
 Calls Tryz.prog 47 #[r.val] w (Said w (RightBx b)) :=
 (refRightS_any b r w hb ob).mono fun e w' h => by
  obtain ⟨y, h1, h2, h3⟩ := h
  exact ⟨y, h1, h2.trans (rightBx_iff b).symm, h3⟩
end
end Go.Proofs.YtfgjimpmpckgpaaGreatDoor
