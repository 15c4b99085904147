import Derived.Test.YtjhginendpjimaaGreatDoorB14
import Derived.Test.YtjhginendpjimaaGreatDoorB12
set_option linter.unusedSimpArgs false
set_option linter.unusedVariables false
set_option maxRecDepth 200000
set_option maxHeartbeats 8000000
namespace Go.Proofs.YtjhginendpjimaaGreatDoor
section
open Go Go.RowKit Go.OpenShut
theorem rlong_any (y m : Int) (w : World) (h0 : 0 <= y) (h1 : y <= 10000) (m0 : 1 <= m) (m1 : m <= 12) : Calls Tryz.prog 79 #[.int .i64 y, .int .i64 m] w fun e w' => e = .returned (.int .i64 (monthF y m)) /\ w = w' := by
 have HM : Hid (monthF y m = if m = 4 \/ m = 6 \/ m = 9 \/ m = 11 then 30 else if m = 2 then (if leapB y then 29 else 28) else 31) := rfl
 obtain ⟨a, ha⟩ : ∃ a, (y % 4 == 0) = a := ⟨_, rfl⟩
 obtain ⟨b, hb⟩ : ∃ a, (y % 100 == 0) = a := ⟨_, rfl⟩
 obtain ⟨c, hc⟩ : ∃ a, (y % 400 == 0) = a := ⟨_, rfl⟩
 have hb2 : (y % 100 != 0) = !b := by unfold bne; rw [hb]
 have HL : Hid (leapB y = ((a && !b) || c)) := by
  unfold Hid leapB
  rw [<- ha, <- hb, <- hc]
  have h : ∀ n : Int, (n == 0) = decide (n = 0) := fun n => by by_cases h : n = 0 <;> simp [h]
  rw [h, h, h]
  simp
 rw [HL.out] at HM
 clear HL
 obtain ⟨R, hR⟩ : ∃ R, monthF y m = R := ⟨_, rfl⟩
 rw [hR] at HM
 rw [hR]
 clear hR
 rcases (show m = 1 \/ m = 3 \/ m = 4 \/ m = 5 \/ m = 6 \/ m = 7 \/ m = 8 \/ m = 9 \/ m = 10 \/ m = 11 \/ m = 12 \/ m = 2 by omega) with rfl | rfl | rfl | rfl | rfl | rfl | rfl | rfl | rfl | rfl | rfl | rfl
 case inr.inr.inr.inr.inr.inr.inr.inr.inr.inr.inr =>
  cases a <;> cases b <;> cases c
  all_goals
   simp only [Bool.not_false, Bool.not_true] at hb2
   go_enter Tryz.func79, Tryz.ntmps79
   go_wp2_with fail
   go_ret
   exact ⟨ret_intS (by rw [HM.out]; decide), rfl⟩
 all_goals
  clear ha hb hc hb2
  go_enter Tryz.func79, Tryz.ntmps79
  go_wp2_with fail
  go_ret
  exact ⟨ret_intS (by rw [HM.out]; rfl), rfl⟩
theorem numAt_succ {l : List UInt8} {i k : Nat} {c : UInt8} (h : l[i + k]? = some c) : (l.drop i).take (k + 1) = (l.drop i).take k ++ [c] := by
 rw [List.take_add_one, List.getElem?_drop, h]
 rfl
theorem rnumber_any (s : ByteArray) (i n : Nat) (w : World) (hs : s.size <= maxLen) (hin : i + n <= s.size) (hn9 : n <= 9) : Calls Tryz.prog 63 #[.string s, .int .i64 (i : Int), .int .i64 (n : Int)] w fun e w' => e = .returned (.int .i64 (numR s.data.toList i n)) /\ w = w' := by
 have HGE : Hid (∀ k, (h : k < s.size) -> s.data.toList[k]? = some s[k]) := fun k h => get_optS h
 unfold maxLen at hs
 have i0 : (0 : Int) <= (i : Int) := Int.natCast_nonneg _
 have n0 : (0 : Int) <= (n : Int) := Int.natCast_nonneg _
 have hin' : (i : Int) + (n : Int) <= (s.size : Int) := by omega
 have hss : (s.size : Int) <= 9223372036854775807 := by omega
 obtain ⟨E, hE⟩ : ∃ E : Nat, i + n = E := ⟨_, rfl⟩
 have hE' : (i : Int) + (n : Int) = (E : Int) := by omega
 go_enter Tryz.func63, Tryz.ntmps63
 go_wp2_with fail
 go_loopw [7, 8] (fun v x wr => ∃ j : Nat, i <= j /\ j <= E /\ x = .int .i64 (j : Int) /\ v = .int .i64 (numAt s.data.toList i (j - i)) /\ w = wr /\ Hid (((s.data.toList.drop i).take (j - i)).all digU = true)) (fun _ x _ => E - (intOf x).toNat)
 case atStart => exact ⟨i, Nat.le_refl _, by omega, rfl, by rw [Nat.sub_self]; rfl, rfl, by rw [Nat.sub_self]; rfl⟩
 case round =>
  obtain ⟨j, hij, hjE, rfl, rfl, rfl, hD⟩ := hrel
  have j0 : (0 : Int) <= (j : Int) := Int.natCast_nonneg _
  obtain ⟨t0, t1⟩ := numAt_lt hD.out
  have t2 : (10 : Int) ^ (j - i) <= 10 ^ 9 := by
   have h3 : (10 : Nat) ^ (j - i) <= 10 ^ 9 := Nat.pow_le_pow_right (by decide) (by omega)
   have h4 : (((10 : Nat) ^ (j - i) : Nat) : Int) <= ((10 ^ 9 : Nat) : Int) := by omega
   simpa using h4
  have t3 : numAt s.data.toList i (j - i) < 1000000000 := Int.lt_of_lt_of_le t1 (Int.le_trans t2 (by decide))
  obtain ⟨T, hT⟩ : ∃ T, numAt s.data.toList i (j - i) = T := ⟨_, rfl⟩
  rw [hT] at t0 t3
  rw [hT]
  have HT := Lib.hid hT
  clear t1 t2 hT
  by_cases hlt : j < E
  ·have hjs : j < s.size := by omega
   have hjs' : (j : Int) < (s.size : Int) := by omega
   have hjE' : (j : Int) < (E : Int) := by omega
   have q1 : decide ((j : Int) < (E : Int)) = true := decide_eq_true hjE'
   have q1' : decide ((j : Int) < (i : Int) + (n : Int)) = true := decide_eq_true (by omega)
   have hg := HGE.out j hjs
   obtain ⟨c, hc⟩ : ∃ c, s[j] = c := ⟨_, rfl⟩
   rw [hc] at hg
   have hsu := numAt_succ (l := s.data.toList) (i := i) (k := j - i) (c := c) (by rw [show i + (j - i) = j by omega]; exact hg)
   have HSU := Lib.hid hsu
   have HG := Lib.hid hg
   have hcl := c.toNat_lt
   have c0 : (0 : Int) <= ((c.toNat : Nat) : Int) := Int.natCast_nonneg _
   have c256 : ((c.toNat : Nat) : Int) < 256 := by omega
   obtain ⟨x, hx⟩ : ∃ b, decide (((c.toNat : Nat) : Int) < 48) = b := ⟨_, rfl⟩
   obtain ⟨y, hy⟩ : ∃ b, decide ((57 : Int) < ((c.toNat : Nat) : Int)) = b := ⟨_, rfl⟩
   have HDG : Hid (digU c = !(x || y)) := by
    unfold Hid digU
    rw [<- hx, <- hy]
    by_cases h1 : c.toNat < 48
    ·rw [decide_eq_true (p := ((c.toNat : Nat) : Int) < 48) (by omega), decide_eq_false (p := 48 <= c.toNat) (by omega)]; rfl
    ·rw [decide_eq_false (p := ((c.toNat : Nat) : Int) < 48) (by omega), decide_eq_true (p := 48 <= c.toNat) (by omega)]
     by_cases h2 : 57 < c.toNat
     ·rw [decide_eq_true (p := (57 : Int) < ((c.toNat : Nat) : Int)) (by omega), decide_eq_false (p := c.toNat <= 57) (by omega)]; rfl
     ·rw [decide_eq_false (p := (57 : Int) < ((c.toNat : Nat) : Int)) (by omega), decide_eq_true (p := c.toNat <= 57) (by omega)]; rfl
   have HNO : Hid (digU c = false -> numR s.data.toList i n = -1) := fun hd => by
    refine numR_no ?_
    cases ha : ((s.data.toList.drop i).take n).all digU with
    | false => rfl
    | true =>
      have hm : ((s.data.toList.drop i).take n)[j - i]? = some c := by
       rw [List.getElem?_take, if_pos (by omega), List.getElem?_drop, show i + (j - i) = j by omega]
       exact HG.out
      have := List.all_eq_true.1 ha c (List.mem_of_getElem? hm)
      rw [hd] at this
      cases this
   clear hg hsu
   cases x <;> cases y
   case false.false =>
    have hx2 := of_decide_eq_false hx
    have hy2 := of_decide_eq_false hy
    go_wp2_with fail
    go_roundw
    case rel =>
     refine ⟨j + 1, by omega, by omega, by go_num, ?_, by trivial, ?_⟩
     ·unfold numAt
      rw [show j + 1 - i = (j - i) + 1 by omega, HSU.out, valD_snoc]
      have h2 := HT.out
      unfold numAt at h2
      rw [h2]
      unfold stepD
      congr 1
      omega
     ·unfold Hid
      rw [show j + 1 - i = (j - i) + 1 by omega, HSU.out, List.all_append, hD.out]
      simpa using HDG.out
    case measure => simp [intOf]; omega
   all_goals
    have HR := Lib.hid (HNO.out (by rw [HDG.out]; rfl))
    go_wp2_with fail
    rw [HR.out]
    go_ret
    exact ⟨rfl, rfl⟩
  ·obtain rfl : j = E := by omega
   have q1 : decide ((j : Int) < (j : Int)) = false := decide_eq_false (by omega)
   have q1' : decide ((j : Int) < (i : Int) + (n : Int)) = false := decide_eq_false (by omega)
   have HR : Hid (numR s.data.toList i n = T) := by
    unfold Hid
    have h1 := hD.out
    have h2 := HT.out
    rw [show j - i = n by omega] at h1 h2
    rw [numR_yes h1, h2]
   go_wp2_with fail
   rw [HR.out]
   go_ret
   exact ⟨rfl, rfl⟩
theorem rdays_any (y m d : Int) (w : World) (y0 : -1 <= y) (y1 : y <= 9999) (m0 : -1 <= m) (m1 : m <= 99) (d0 : -1 <= d) (d1 : d <= 99) : Calls Tryz.prog 64 #[.int .i64 y, .int .i64 m, .int .i64 d] w fun e w' => e = .returned (dayRet (daysF y m d)) /\ w = w' := by
 have HDF : Hid (daysF y m d = if 0 <= y /\ y <= 9999 /\ 1 <= m /\ m <= 12 /\ 1 <= d /\ d <= monthF y m then some (aheadF y - aheadF 1970 + monthsF y (m.toNat - 1) + d - 1) else none) := rfl
 obtain ⟨R, hR⟩ : ∃ R, daysF y m d = R := ⟨_, rfl⟩
 rw [hR] at HDF
 rw [hR]
 clear hR
 have q2 : decide ((9999 : Int) < y) = false := decide_eq_false (by omega)
 by_cases hg : 0 <= y /\ 1 <= m /\ m <= 12 /\ 1 <= d
 ·obtain ⟨g0, g1, g2, g3⟩ := hg
  have q1 : decide (y < 0) = false := decide_eq_false (by omega)
  have q3 : decide (m < 1) = false := decide_eq_false (by omega)
  have q4 : decide ((12 : Int) < m) = false := decide_eq_false (by omega)
  have q5 : decide (d < 1) = false := decide_eq_false (by omega)
  have HLG : Hid (∀ v k W, 0 <= v -> v <= 10000 -> 1 <= k -> k <= 12 -> Calls Tryz.prog 79 #[.int .i64 v, .int .i64 k] W fun e w' => e = .returned (.int .i64 (monthF v k)) /\ W = w') := fun v k W a b c e => rlong_any v k W a b c e
  have HL1 := Lib.hid (fun W => HLG.out y m W g0 (by omega) g1 g2)
  obtain ⟨M, hM⟩ : ∃ M, monthF y m = M := ⟨_, rfl⟩
  rw [hM] at HL1 HDF
  obtain ⟨p, hp⟩ : ∃ p, decide (M < d) = p := ⟨_, rfl⟩
  cases p with
  | true =>
    have hMd := of_decide_eq_true hp
    have HR : Hid (R = none) := by unfold Hid; rw [HDF.out, if_neg (by omega)]
    clear hM
    go_enter Tryz.func64, Tryz.ntmps64
    go_wp2_with (first | (go_at_call 79; (with_reducible refine (HL1.out _).mono ?_); rintro e w1 ⟨rfl, rfl⟩) | fail)
    rw [HR.out]
    refine bodyPost_ret (v := .tuple #[.int .i64 0, .bool false]) (by simp [results, Tryz.results64, go_sem]) rfl ⟨rfl, rfl⟩
  | false =>
    have hMd := of_decide_eq_false hp
    have HR : Hid (R = some (aheadF y - aheadF 1970 + monthsF y (m.toNat - 1) + d - 1)) := by unfold Hid; rw [HDF.out, if_pos (by omega)]
    clear hM HDF
    go_enter Tryz.func64, Tryz.ntmps64
    go_upto_region 5 with (first | (go_at_call 79; (with_reducible refine (HL1.out _).mono ?_); rintro e w1 ⟨rfl, rfl⟩) | fail)
    go_loopw [8, 9] (fun t v wr => ∃ u : Int, 1970 <= u /\ (u = 1970 \/ u <= y) /\ v = .int .i64 u /\ t = .int .i64 (aheadF u - aheadF 1970) /\ w = wr) (fun _ v _ => (y - intOf v).toNat)
    case atStart => exact ⟨1970, by omega, .inl rfl, rfl, by rw [Int.sub_self], rfl⟩
    case round =>
     obtain ⟨u, u0, u1, rfl, rfl, rfl⟩ := hrel
     have hub : u <= 10000 := by omega
     obtain ⟨b0, b1⟩ := aheadF_bound (y := u) (by omega) hub
     have e7 : aheadF 1970 = 719528 := by decide
     by_cases hlt : u < y
     ·have r1 : decide (u < y) = true := decide_eq_true hlt
      have HLU := Lib.hid (fun W => HLG.out u 2 W (by omega) hub (by decide) (by decide))
      have HST := Lib.hid (ahead_step (y := u) (by omega))
      have hmp := month_pos u 2
      obtain ⟨a, ha⟩ : ∃ a, aheadF u = a := ⟨_, rfl⟩
      obtain ⟨l, hl⟩ : ∃ l, monthF u 2 = l := ⟨_, rfl⟩
      rw [ha] at HST b0 b1
      rw [hl] at HST hmp HLU
      rw [e7, ha]
      have HE := Lib.hid e7
      clear ha hl e7
      go_wp2_with (first | (go_at_call 79; (with_reducible refine (HLU.out _).mono ?_); rintro e w1 ⟨rfl, rfl⟩) | fail)
      go_roundw
      case rel => exact ⟨u + 1, by omega, .inr (by omega), by go_num, by rw [HST.out]; (try rw [HE.out]); congr 1; omega, by trivial⟩
      case measure => simp [intOf]; omega
     ·have r1 : decide (u < y) = false := decide_eq_false hlt
      obtain ⟨V, hV⟩ : ∃ V, aheadF u - aheadF 1970 = V := ⟨_, rfl⟩
      rw [hV]
      have HV := Lib.hid hV
      have HE := Lib.hid e7
      clear hV e7
      go_upto_region 9 with fail
      go_loopw [8, 10] (fun t v wr => ∃ u2 : Int, y <= u2 /\ u2 <= u /\ v = .int .i64 u2 /\ t = .int .i64 (V - (aheadF u2 - aheadF y)) /\ w = wr) (fun _ v _ => (1970 - intOf v).toNat)
      case atStart => exact ⟨y, by omega, by omega, rfl, by rw [Int.sub_self, Int.sub_zero], rfl⟩
      case round =>
       obtain ⟨u2, v0, v1, rfl, rfl, rfl⟩ := hrel
       obtain ⟨c0, c1⟩ := aheadF_bound (y := u2) (by omega) (by omega)
       obtain ⟨d3, d4⟩ := aheadF_bound (y := y) g0 (by omega)
       have hVV := HV.out
       rw [HE.out] at hVV
       by_cases hlt2 : u2 < 1970
       ·have r2 : decide (u2 < 1970) = true := decide_eq_true hlt2
        have HLU := Lib.hid (fun W => HLG.out u2 2 W (by omega) (by omega) (by decide) (by decide))
        have HST := Lib.hid (ahead_step (y := u2) (by omega))
        have hmp := month_pos u2 2
        obtain ⟨a, ha⟩ : ∃ a, aheadF u2 = a := ⟨_, rfl⟩
        obtain ⟨z, hz⟩ : ∃ a, aheadF y = a := ⟨_, rfl⟩
        obtain ⟨l, hl⟩ : ∃ l, monthF u2 2 = l := ⟨_, rfl⟩
        rw [ha] at HST c0 c1
        rw [hl] at HST hmp HLU
        rw [hz] at d3 d4
        rw [ha, hz]
        have HZ := Lib.hid hz
        have bV : -800000 <= V /\ V <= 4000000 := by omega
        obtain ⟨bV0, bV1⟩ := bV
        clear ha hl hz hVV
        go_wp2_with (first | (go_at_call 79; (with_reducible refine (HLU.out _).mono ?_); rintro e w1 ⟨rfl, rfl⟩) | fail)
        go_roundw
        case rel => exact ⟨u2 + 1, by omega, by omega, by go_num, by rw [HST.out]; (try rw [HZ.out]); congr 1; omega, by trivial⟩
        case measure => simp [intOf]; omega
       ·have r2 : decide (u2 < 1970) = false := decide_eq_false hlt2
        have hS : V - (aheadF u2 - aheadF y) = aheadF y - aheadF 1970 := by
         rcases u1 with h | h
         ·have : u2 = 1970 := by omega
          subst this
          rw [<- HV.out, h]
          omega
         ·have h5 : u2 = y := by omega
          have h6 : u = y := by omega
          rw [<- HV.out, h5, h6]
          omega
        rw [hS, HE.out]
        obtain ⟨z, hz⟩ : ∃ a, aheadF y = a := ⟨_, rfl⟩
        rw [hz] at d3 d4 HR
        rw [hz]
        clear hz hS hVV
        go_upto_region 13 with fail
        go_loopw [8, 11] (fun t v wr => ∃ j : Int, 1 <= j /\ j <= m /\ v = .int .i64 j /\ t = .int .i64 (z - 719528 + monthsF y (j.toNat - 1)) /\ w = wr) (fun _ v _ => (m - intOf v).toNat)
        case atStart => exact ⟨1, by omega, by omega, rfl, by show _ = Value.int .i64 (z - 719528 + 0); rw [Int.add_zero], rfl⟩
        case round =>
         obtain ⟨j, j0, j1, rfl, rfl, rfl⟩ := hrel
         obtain ⟨k, hk⟩ : ∃ k : Nat, j.toNat - 1 = k := ⟨_, rfl⟩
         have hjk : ((k + 1 : Nat) : Int) = j := by omega
         have hkb : k <= 12 := by omega
         obtain ⟨s0, s1⟩ := monthsF_bound y k
         have hsb : monthsF y k <= 400 := by omega
         rw [hk]
         by_cases hlt3 : j < m
         ·have r3 : decide (j < m) = true := decide_eq_true hlt3
          have HLU := Lib.hid (fun W => HLG.out y j W g0 (by omega) j0 (by omega))
          have hmp := month_pos y j
          have HST : Hid (monthsF y ((j + 1).toNat - 1) = monthsF y k + monthF y j) := by
           unfold Hid
           rw [show (j + 1).toNat - 1 = k + 1 by omega, <- hjk]
           rfl
          obtain ⟨a, ha⟩ : ∃ a, monthsF y k = a := ⟨_, rfl⟩
          obtain ⟨l, hl⟩ : ∃ l, monthF y j = l := ⟨_, rfl⟩
          rw [ha] at HST s0 hsb
          rw [hl] at HST hmp HLU
          rw [ha]
          clear ha hl s1 hjk hk
          go_wp2_with (first | (go_at_call 79; (with_reducible refine (HLU.out _).mono ?_); rintro e w1 ⟨rfl, rfl⟩) | fail)
          go_roundw
          case rel => exact ⟨j + 1, by omega, by omega, by go_num, by rw [HST.out]; congr 1; omega, by trivial⟩
          case measure => simp [intOf]; omega
         ·obtain rfl : j = m := by omega
          have r3 : decide (j < j) = false := decide_eq_false (by omega)
          rw [hk] at HR
          obtain ⟨a, ha⟩ : ∃ a, monthsF y k = a := ⟨_, rfl⟩
          rw [ha] at s0 hsb HR
          rw [ha]
          have HR2 : Hid (R = some (z - 719528 + a + d - 1)) := by unfold Hid; rw [HR.out, HE.out]
          clear ha s1 hjk hk
          go_wp2_with fail
          rw [HR2.out]
          refine bodyPost_ret (v := .tuple #[.int .i64 (z - 719528 + a + d - 1), .bool true]) (by simp [results, Tryz.results64, go_sem]) rfl ⟨rfl, rfl⟩
 ·have HR : Hid (R = none) := by unfold Hid; rw [HDF.out, if_neg (fun e => hg ⟨e.1, e.2.2.1, e.2.2.2.1, e.2.2.2.2.1⟩)]
  obtain ⟨p1, hp1⟩ : ∃ p, decide (y < 0) = p := ⟨_, rfl⟩
  obtain ⟨p3, hp3⟩ : ∃ p, decide (m < 1) = p := ⟨_, rfl⟩
  obtain ⟨p4, hp4⟩ : ∃ p, decide ((12 : Int) < m) = p := ⟨_, rfl⟩
  obtain ⟨p5, hp5⟩ : ∃ p, decide (d < 1) = p := ⟨_, rfl⟩
  cases p1 <;> cases p3 <;> cases p4 <;> cases p5
  case false.false.false.false =>
   have := of_decide_eq_false hp1
   have := of_decide_eq_false hp3
   have := of_decide_eq_false hp4
   have := of_decide_eq_false hp5
   exact absurd ⟨by omega, by omega, by omega, by omega⟩ hg
  all_goals
   clear hg HDF
   go_enter Tryz.func64, Tryz.ntmps64
   go_wp2_with fail
   rw [HR.out]
   refine bodyPost_ret (v := .tuple #[.int .i64 0, .bool false]) (by simp [results, Tryz.results64, go_sem]) rfl ⟨rfl, rfl⟩
theorem partF_in {l : List UInt8} {i : Nat} (h : 21 + i < l.length) : (partF l)[i]? = l[20 + i]? := by
 unfold partF
 rw [List.getElem?_append_left (by rw [List.length_take, List.length_drop]; omega), List.getElem?_take, if_pos (by omega), List.getElem?_drop]
theorem partF_out {l : List UInt8} {i : Nat} (h : ¬ 21 + i < l.length) (hi : i < 10) (hl : l.length <= 31) : (partF l)[i]? = some 48 := by
 unfold partF
 have hlen : ((l.drop 20).take (l.length - 21)).length = l.length - 21 := by rw [List.length_take, List.length_drop]; omega
 rw [List.getElem?_append_right (by omega), hlen, List.getElem?_replicate, if_pos (by omega)]
theorem part_step {l : List UInt8} {i : Nat} {c : UInt8} (h : (partF l)[i]? = some c) : valD ((partF l).take (i + 1)) = valD ((partF l).take i) * 10 + (((c.toNat : Nat) : Int) - 48) := by
 rw [List.take_add_one, h, Option.toList_some, valD_snoc]
 rfl
theorem rpart_any (s : ByteArray) (w : World) (ht : tlOk (s.data.toList.drop 19) = true) : Calls Tryz.prog 44 #[.string s] w fun e w' => e = .returned (.int .i64 (partN s.data.toList)) /\ w = w' := by
 have HGE : Hid (∀ k, (h : k < s.size) -> s.data.toList[k]? = some s[k]) := fun k h => get_optS h
 have hsz : s.data.toList.length = s.size := by rw [Array.length_toList]; rfl
 obtain ⟨l1, l0, _⟩ := tl_digs ht
 obtain ⟨hpd, hpl⟩ := partF_digs ht
 have HPI : Hid (∀ i, 21 + i < s.size -> (partF s.data.toList)[i]? = s.data.toList[20 + i]?) := fun i h => partF_in (by omega)
 have HPX : Hid (∀ i, ¬ 21 + i < s.size -> i < 10 -> (partF s.data.toList)[i]? = some 48) := fun i h h2 => partF_out (by omega) h2 (by omega)
 have HPS : Hid (∀ i c, (partF s.data.toList)[i]? = some c -> valD ((partF s.data.toList).take (i + 1)) = valD ((partF s.data.toList).take i) * 10 + (((c.toNat : Nat) : Int) - 48)) := fun i c h => part_step h
 have HBD : Hid (∀ i, i <= 9 -> 0 <= valD ((partF s.data.toList).take i) /\ valD ((partF s.data.toList).take i) < 1000000000) := fun i hi => by
  have hd : ((partF s.data.toList).take i).all digU = true := by
   rw [List.all_eq_true] at hpd ⊢
   exact fun x hx => hpd x (List.mem_of_mem_take hx)
  refine ⟨valD_nonneg hd, ?_⟩
  have h1 := valD_lt i _ (by rw [List.length_take]; omega) hd
  have h3 : (10 : Nat) ^ i <= 10 ^ 9 := Nat.pow_le_pow_right (by decide) hi
  have h4 : (((10 : Nat) ^ i : Nat) : Int) <= ((10 ^ 9 : Nat) : Int) := by omega
  have h5 : (10 : Int) ^ i <= 10 ^ 9 := by simpa using h4
  exact Int.lt_of_lt_of_le h1 (Int.le_trans h5 (by decide))
 have HN : Hid (partN s.data.toList = valD ((partF s.data.toList).take 9)) := rfl
 obtain ⟨R, hR⟩ : ∃ R, partN s.data.toList = R := ⟨_, rfl⟩
 rw [hR] at HN
 rw [hR]
 have hs20 : 20 <= s.size := by omega
 have hs30 : s.size <= 30 := by omega
 have s20 : (20 : Int) <= (s.size : Int) := by omega
 have s30 : (s.size : Int) <= 30 := by omega
 clear hsz hR hpd hpl ht l0 l1
 obtain ⟨x, hx⟩ : ∃ b, decide ((20 : Int) < (s.size : Int)) = b := ⟨_, rfl⟩
 go_enter Tryz.func44, Tryz.ntmps44
 go_wp2_with fail
 go_loopw [3, 4] (fun t i wr => ∃ k : Nat, k <= 9 /\ i = .int .i64 (k : Int) /\ t = .int .i64 (valD ((partF s.data.toList).take k)) /\ w = wr) (fun _ i _ => 9 - (intOf i).toNat)
 case atStart => exact ⟨0, by omega, rfl, rfl, rfl⟩
 case round =>
  obtain ⟨k, hk, rfl, rfl, rfl⟩ := hrel
  have hk0 : (0 : Int) <= (k : Int) := Int.natCast_nonneg _
  have hk9' : (k : Int) <= 9 := by omega
  obtain ⟨t0, t1⟩ := HBD.out k hk
  by_cases hlt : k < 9
  ·have hk9 : (k : Int) < 9 := by omega
   have hst : ∀ c, (partF s.data.toList)[k]? = some c -> valD ((partF s.data.toList).take (k + 1)) = valD ((partF s.data.toList).take k) * 10 + (((c.toNat : Nat) : Int) - 48) := fun c h => HPS.out k c h
   obtain ⟨T, hT⟩ : ∃ T, valD ((partF s.data.toList).take k) = T := ⟨_, rfl⟩
   rw [hT] at t0 t1 hst
   rw [hT]
   have HST := Lib.hid hst
   clear hT hst
   by_cases hin : 21 + k < s.size
   ·have q1 : decide ((20 : Int) < (s.size : Int)) = true := decide_eq_true (by omega)
    obtain rfl : x = true := hx.symm.trans q1
    have q2 : decide ((20 : Int) + (k : Int) < (s.size : Int) - 1) = true := decide_eq_true (by omega)
    have hks : 20 + k < s.size := by omega
    have hks' : (20 : Int) + (k : Int) < (s.size : Int) := by omega
    have hg := HGE.out (20 + k) hks
    have hgp := HPI.out k hin
    obtain ⟨c, hc⟩ : ∃ c, s[20 + k] = c := ⟨_, rfl⟩
    rw [hc] at hg
    rw [hg] at hgp
    have HE := Lib.hid (HST.out c hgp)
    have hcl := c.toNat_lt
    have c0 : (0 : Int) <= ((c.toNat : Nat) : Int) := Int.natCast_nonneg _
    have c256 : ((c.toNat : Nat) : Int) < 256 := by omega
    clear hg hgp
    have htn : ((20 : Int) + (k : Int)).toNat = 20 + k := by omega
    go_upto_region 7 with fail
    go_wp2_with fail
    go_roundw
    case rel => exact ⟨k + 1, by omega, by go_num, by rw [HE.out]; congr 1; omega, by trivial⟩
    case measure => simp [intOf]; omega
   ·have hgp := HPX.out k hin (by omega)
    have HE := Lib.hid (HST.out 48 hgp)
    clear hgp
    cases x with
    | true =>
      have q2 : decide ((20 : Int) + (k : Int) < (s.size : Int) - 1) = false := decide_eq_false (by omega)
      go_wp2_with fail
      go_roundw
      case rel => exact ⟨k + 1, by omega, by go_num, by rw [HE.out]; congr 1; show _ = T * 10 + ((48 : Int) - 48); omega, by trivial⟩
      case measure => simp [intOf]; omega
    | false =>
      go_wp2_with fail
      go_roundw
      case rel => exact ⟨k + 1, by omega, by go_num, by rw [HE.out]; congr 1; show _ = T * 10 + ((48 : Int) - 48); omega, by trivial⟩
      case measure => simp [intOf]; omega
  ·obtain rfl : k = 9 := by omega
   go_wp2_with fail
   rw [HN.out]
   go_ret
   exact ⟨rfl, rfl⟩
end
end Go.Proofs.YtjhginendpjimaaGreatDoor
