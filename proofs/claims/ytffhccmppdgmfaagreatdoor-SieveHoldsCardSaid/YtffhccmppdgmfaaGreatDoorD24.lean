import Derived.Test.YtffhccmppdgmfaaGreatDoorD23
import Derived.Test.YtffhccmppdgmfaaGreatDoorD06
import Derived.Test.YtffhccmppdgmfaaGreatDoorD03
import Derived.Test.YtffhccmppdgmfaaGreatDoorD09
set_option linter.unusedSimpArgs false
set_option linter.unusedVariables false
set_option maxRecDepth 200000
set_option maxHeartbeats 8000000
namespace Go.Proofs.YtffhccmppdgmfaaGreatDoor
section
open Go Go.RowKit Go.OpenShut
theorem rdays_any (y m d : Int) (w : World) (y0 : -1 <= y) (y1 : y <= 9999) (m0 : -1 <= m) (m1 : m <= 99) (d0 : -1 <= d) (d1 : d <= 99) : Calls Tryz.prog 85 #[.int .i64 y, .int .i64 m, .int .i64 d] w fun e w' => e = .returned (dayRet (daysF y m d)) /\ w = w' := by
 have HDF : Hid (daysF y m d = if 0 <= y /\ y <= 9999 /\ 1 <= m /\ m <= 12 /\ 1 <= d /\ d <= monthF y m then some (aheadF y - aheadF 1970 + monthsF y (m.toNat - 1) + d - 1) else none) := rfl
 obtain ⟨R, hR⟩ : ∃ R, daysF y m d = R := ⟨_, rfl⟩
 rw [hR] at HDF
 rw [hR]
 clear hR
 have q2 : decide ((9999 : Int) < y) = false := decide_eq_false (by omega)
 by_cases hg : 0 <= y /\ 1 <= m /\ m <= 12 /\ 1 <= d
 ·obtain ⟨g0, g1, g2, g3⟩ := hg
  have q1 : decide (y < 0) = false := decide_eq_false (by omega)
  have q3 : decide (m < 1) = false := decide_eq_false (by omega)
  have q4 : decide ((12 : Int) < m) = false := decide_eq_false (by omega)
  have q5 : decide (d < 1) = false := decide_eq_false (by omega)
  have HLG : Hid (∀ v k W, 0 <= v -> v <= 10000 -> 1 <= k -> k <= 12 -> Calls Tryz.prog 113 #[.int .i64 v, .int .i64 k] W fun e w' => e = .returned (.int .i64 (monthF v k)) /\ W = w') := fun v k W a b c e => rlong_any v k W a b c e
  have HL1 := Lib.hid (fun W => HLG.out y m W g0 (by omega) g1 g2)
  obtain ⟨M, hM⟩ : ∃ M, monthF y m = M := ⟨_, rfl⟩
  rw [hM] at HL1 HDF
  obtain ⟨p, hp⟩ : ∃ p, decide (M < d) = p := ⟨_, rfl⟩
  cases p with
  | true =>
    have hMd := of_decide_eq_true hp
    have HR : Hid (R = none) := by unfold Hid; rw [HDF.out, if_neg (by omega)]
    clear hM
    go_enter Tryz.func85, Tryz.ntmps85
    go_wp2_with (first | (go_at_call 113; (with_reducible refine (HL1.out _).mono ?_); rintro e w1 ⟨rfl, rfl⟩) | fail)
    rw [HR.out]
    refine bodyPost_ret (v := .tuple #[.int .i64 0, .bool false]) (by simp [results, Tryz.results85, go_sem]) rfl ⟨rfl, rfl⟩
  | false =>
    have hMd := of_decide_eq_false hp
    have HR : Hid (R = some (aheadF y - aheadF 1970 + monthsF y (m.toNat - 1) + d - 1)) := by unfold Hid; rw [HDF.out, if_pos (by omega)]
    clear hM HDF
    go_enter Tryz.func85, Tryz.ntmps85
    go_upto_region 5 with (first | (go_at_call 113; (with_reducible refine (HL1.out _).mono ?_); rintro e w1 ⟨rfl, rfl⟩) | fail)
    go_loopw [8, 9] (fun t v wr => ∃ u : Int, 1970 <= u /\ (u = 1970 \/ u <= y) /\ v = .int .i64 u /\ t = .int .i64 (aheadF u - aheadF 1970) /\ w = wr) (fun _ v _ => (y - intOf v).toNat)
    case atStart => exact ⟨1970, by omega, .inl rfl, rfl, by rw [Int.sub_self], rfl⟩
    case round =>
     obtain ⟨u, u0, u1, rfl, rfl, rfl⟩ := hrel
     have hub : u <= 10000 := by omega
     obtain ⟨b0, b1⟩ := aheadF_bound (y := u) (by omega) hub
     have e7 : aheadF 1970 = 719528 := by decide
     by_cases hlt : u < y
     ·have r1 : decide (u < y) = true := decide_eq_true hlt
      have HLU := Lib.hid (fun W => HLG.out u 2 W (by omega) hub (by decide) (by decide))
      have HST := Lib.hid (ahead_step (y := u) (by omega))
      have hmp := month_pos u 2
      obtain ⟨a, ha⟩ : ∃ a, aheadF u = a := ⟨_, rfl⟩
      obtain ⟨l, hl⟩ : ∃ l, monthF u 2 = l := ⟨_, rfl⟩
      rw [ha] at HST b0 b1
      rw [hl] at HST hmp HLU
      rw [e7, ha]
      have HE := Lib.hid e7
      clear ha hl e7
      go_wp2_with (first | (go_at_call 113; (with_reducible refine (HLU.out _).mono ?_); rintro e w1 ⟨rfl, rfl⟩) | fail)
      go_roundw
      case rel => exact ⟨u + 1, by omega, .inr (by omega), by go_num, by rw [HST.out]; (try rw [HE.out]); congr 1; omega, by trivial⟩
      case measure => simp [intOf]; omega
     ·have r1 : decide (u < y) = false := decide_eq_false hlt
      obtain ⟨V, hV⟩ : ∃ V, aheadF u - aheadF 1970 = V := ⟨_, rfl⟩
      rw [hV]
      have HV := Lib.hid hV
      have HE := Lib.hid e7
      clear hV e7
      go_upto_region 9 with fail
      go_loopw [8, 10] (fun t v wr => ∃ u2 : Int, y <= u2 /\ u2 <= u /\ v = .int .i64 u2 /\ t = .int .i64 (V - (aheadF u2 - aheadF y)) /\ w = wr) (fun _ v _ => (1970 - intOf v).toNat)
      case atStart => exact ⟨y, by omega, by omega, rfl, by rw [Int.sub_self, Int.sub_zero], rfl⟩
      case round =>
       obtain ⟨u2, v0, v1, rfl, rfl, rfl⟩ := hrel
       obtain ⟨c0, c1⟩ := aheadF_bound (y := u2) (by omega) (by omega)
       obtain ⟨d3, d4⟩ := aheadF_bound (y := y) g0 (by omega)
       have hVV := HV.out
       rw [HE.out] at hVV
       by_cases hlt2 : u2 < 1970
       ·have r2 : decide (u2 < 1970) = true := decide_eq_true hlt2
        have HLU := Lib.hid (fun W => HLG.out u2 2 W (by omega) (by omega) (by decide) (by decide))
        have HST := Lib.hid (ahead_step (y := u2) (by omega))
        have hmp := month_pos u2 2
        obtain ⟨a, ha⟩ : ∃ a, aheadF u2 = a := ⟨_, rfl⟩
        obtain ⟨z, hz⟩ : ∃ a, aheadF y = a := ⟨_, rfl⟩
        obtain ⟨l, hl⟩ : ∃ l, monthF u2 2 = l := ⟨_, rfl⟩
        rw [ha] at HST c0 c1
        rw [hl] at HST hmp HLU
        rw [hz] at d3 d4
        rw [ha, hz]
        have HZ := Lib.hid hz
        have bV : -800000 <= V /\ V <= 4000000 := by omega
        obtain ⟨bV0, bV1⟩ := bV
        clear ha hl hz hVV
        go_wp2_with (first | (go_at_call 113; (with_reducible refine (HLU.out _).mono ?_); rintro e w1 ⟨rfl, rfl⟩) | fail)
        go_roundw
        case rel => exact ⟨u2 + 1, by omega, by omega, by go_num, by rw [HST.out]; (try rw [HZ.out]); congr 1; omega, by trivial⟩
        case measure => simp [intOf]; omega
       ·have r2 : decide (u2 < 1970) = false := decide_eq_false hlt2
        have hS : V - (aheadF u2 - aheadF y) = aheadF y - aheadF 1970 := by
         rcases u1 with h | h
         ·have : u2 = 1970 := by omega
          subst this
          rw [<- HV.out, h]
          omega
         ·have h5 : u2 = y := by omega
          have h6 : u = y := by omega
          rw [<- HV.out, h5, h6]
          omega
        rw [hS, HE.out]
        obtain ⟨z, hz⟩ : ∃ a, aheadF y = a := ⟨_, rfl⟩
        rw [hz] at d3 d4 HR
        rw [hz]
        clear hz hS hVV
        go_upto_region 13 with fail
        go_loopw [8, 11] (fun t v wr => ∃ j : Int, 1 <= j /\ j <= m /\ v = .int .i64 j /\ t = .int .i64 (z - 719528 + monthsF y (j.toNat - 1)) /\ w = wr) (fun _ v _ => (m - intOf v).toNat)
        case atStart => exact ⟨1, by omega, by omega, rfl, by show _ = Value.int .i64 (z - 719528 + 0); rw [Int.add_zero], rfl⟩
        case round =>
         obtain ⟨j, j0, j1, rfl, rfl, rfl⟩ := hrel
         obtain ⟨k, hk⟩ : ∃ k : Nat, j.toNat - 1 = k := ⟨_, rfl⟩
         have hjk : ((k + 1 : Nat) : Int) = j := by omega
         have hkb : k <= 12 := by omega
         obtain ⟨s0, s1⟩ := monthsF_bound y k
         have hsb : monthsF y k <= 400 := by omega
         rw [hk]
         by_cases hlt3 : j < m
         ·have r3 : decide (j < m) = true := decide_eq_true hlt3
          have HLU := Lib.hid (fun W => HLG.out y j W g0 (by omega) j0 (by omega))
          have hmp := month_pos y j
          have HST : Hid (monthsF y ((j + 1).toNat - 1) = monthsF y k + monthF y j) := by
           unfold Hid
           rw [show (j + 1).toNat - 1 = k + 1 by omega, <- hjk]
           rfl
          obtain ⟨a, ha⟩ : ∃ a, monthsF y k = a := ⟨_, rfl⟩
          obtain ⟨l, hl⟩ : ∃ l, monthF y j = l := ⟨_, rfl⟩
          rw [ha] at HST s0 hsb
          rw [hl] at HST hmp HLU
          rw [ha]
          clear ha hl s1 hjk hk
          go_wp2_with (first | (go_at_call 113; (with_reducible refine (HLU.out _).mono ?_); rintro e w1 ⟨rfl, rfl⟩) | fail)
          go_roundw
          case rel => exact ⟨j + 1, by omega, by omega, by go_num, by rw [HST.out]; congr 1; omega, by trivial⟩
          case measure => simp [intOf]; omega
         ·obtain rfl : j = m := by omega
          have r3 : decide (j < j) = false := decide_eq_false (by omega)
          rw [hk] at HR
          obtain ⟨a, ha⟩ : ∃ a, monthsF y k = a := ⟨_, rfl⟩
          rw [ha] at s0 hsb HR
          rw [ha]
          have HR2 : Hid (R = some (z - 719528 + a + d - 1)) := by unfold Hid; rw [HR.out, HE.out]
          clear ha s1 hjk hk
          go_wp2_with fail
          rw [HR2.out]
          refine bodyPost_ret (v := .tuple #[.int .i64 (z - 719528 + a + d - 1), .bool true]) (by simp [results, Tryz.results85, go_sem]) rfl ⟨rfl, rfl⟩
 ·have HR : Hid (R = none) := by unfold Hid; rw [HDF.out, if_neg (fun e => hg ⟨e.1, e.2.2.1, e.2.2.2.1, e.2.2.2.2.1⟩)]
  obtain ⟨p1, hp1⟩ : ∃ p, decide (y < 0) = p := ⟨_, rfl⟩
  obtain ⟨p3, hp3⟩ : ∃ p, decide (m < 1) = p := ⟨_, rfl⟩
  obtain ⟨p4, hp4⟩ : ∃ p, decide ((12 : Int) < m) = p := ⟨_, rfl⟩
  obtain ⟨p5, hp5⟩ : ∃ p, decide (d < 1) = p := ⟨_, rfl⟩
  cases p1 <;> cases p3 <;> cases p4 <;> cases p5
  case false.false.false.false =>
   have := of_decide_eq_false hp1
   have := of_decide_eq_false hp3
   have := of_decide_eq_false hp4
   have := of_decide_eq_false hp5
   exact absurd ⟨by omega, by omega, by omega, by omega⟩ hg
  all_goals
   clear hg HDF
   go_enter Tryz.func85, Tryz.ntmps85
   go_wp2_with fail
   rw [HR.out]
   refine bodyPost_ret (v := .tuple #[.int .i64 0, .bool false]) (by simp [results, Tryz.results85, go_sem]) rfl ⟨rfl, rfl⟩
theorem partF_in {l : List UInt8} {i : Nat} (h : 21 + i < l.length) : (partF l)[i]? = l[20 + i]? := by
 unfold partF
 rw [List.getElem?_append_left (by rw [List.length_take, List.length_drop]; omega), List.getElem?_take, if_pos (by omega), List.getElem?_drop]
theorem partF_out {l : List UInt8} {i : Nat} (h : ¬ 21 + i < l.length) (hi : i < 10) (hl : l.length <= 31) : (partF l)[i]? = some 48 := by
 unfold partF
 have hlen : ((l.drop 20).take (l.length - 21)).length = l.length - 21 := by rw [List.length_take, List.length_drop]; omega
 rw [List.getElem?_append_right (by omega), hlen, List.getElem?_replicate, if_pos (by omega)]
theorem part_step {l : List UInt8} {i : Nat} {c : UInt8} (h : (partF l)[i]? = some c) : valD ((partF l).take (i + 1)) = valD ((partF l).take i) * 10 + (((c.toNat : Nat) : Int) - 48) := by
 rw [List.take_add_one, h, Option.toList_some, valD_snoc]
 rfl
theorem rpart_any (s : ByteArray) (w : World) (ht : tlOk (s.data.toList.drop 19) = true) : Calls Tryz.prog 46 #[.string s] w fun e w' => e = .returned (.int .i64 (partN s.data.toList)) /\ w = w' := by
 have HGE : Hid (∀ k, (h : k < s.size) -> s.data.toList[k]? = some s[k]) := fun k h => get_optS h
 have hsz : s.data.toList.length = s.size := by rw [Array.length_toList]; rfl
 obtain ⟨l1, l0, _⟩ := tl_digs ht
 obtain ⟨hpd, hpl⟩ := partF_digs ht
 have HPI : Hid (∀ i, 21 + i < s.size -> (partF s.data.toList)[i]? = s.data.toList[20 + i]?) := fun i h => partF_in (by omega)
 have HPX : Hid (∀ i, ¬ 21 + i < s.size -> i < 10 -> (partF s.data.toList)[i]? = some 48) := fun i h h2 => partF_out (by omega) h2 (by omega)
 have HPS : Hid (∀ i c, (partF s.data.toList)[i]? = some c -> valD ((partF s.data.toList).take (i + 1)) = valD ((partF s.data.toList).take i) * 10 + (((c.toNat : Nat) : Int) - 48)) := fun i c h => part_step h
 have HBD : Hid (∀ i, i <= 9 -> 0 <= valD ((partF s.data.toList).take i) /\ valD ((partF s.data.toList).take i) < 1000000000) := fun i hi => by
  have hd : ((partF s.data.toList).take i).all digU = true := by
   rw [List.all_eq_true] at hpd ⊢
   exact fun x hx => hpd x (List.mem_of_mem_take hx)
  refine ⟨valD_nonneg hd, ?_⟩
  have h1 := valD_lt i _ (by rw [List.length_take]; omega) hd
  have h3 : (10 : Nat) ^ i <= 10 ^ 9 := Nat.pow_le_pow_right (by decide) hi
  have h4 : (((10 : Nat) ^ i : Nat) : Int) <= ((10 ^ 9 : Nat) : Int) := by omega
  have h5 : (10 : Int) ^ i <= 10 ^ 9 := by simpa using h4
  exact Int.lt_of_lt_of_le h1 (Int.le_trans h5 (by decide))
 have HN : Hid (partN s.data.toList = valD ((partF s.data.toList).take 9)) := rfl
 obtain ⟨R, hR⟩ : ∃ R, partN s.data.toList = R := ⟨_, rfl⟩
 rw [hR] at HN
 rw [hR]
 have hs20 : 20 <= s.size := by omega
 have hs30 : s.size <= 30 := by omega
 have s20 : (20 : Int) <= (s.size : Int) := by omega
 have s30 : (s.size : Int) <= 30 := by omega
 clear hsz hR hpd hpl ht l0 l1
 obtain ⟨x, hx⟩ : ∃ b, decide ((20 : Int) < (s.size : Int)) = b := ⟨_, rfl⟩
 go_enter Tryz.func46, Tryz.ntmps46
 go_wp2_with fail
 go_loopw [3, 4] (fun t i wr => ∃ k : Nat, k <= 9 /\ i = .int .i64 (k : Int) /\ t = .int .i64 (valD ((partF s.data.toList).take k)) /\ w = wr) (fun _ i _ => 9 - (intOf i).toNat)
 case atStart => exact ⟨0, by omega, rfl, rfl, rfl⟩
 case round =>
  obtain ⟨k, hk, rfl, rfl, rfl⟩ := hrel
  have hk0 : (0 : Int) <= (k : Int) := Int.natCast_nonneg _
  have hk9' : (k : Int) <= 9 := by omega
  obtain ⟨t0, t1⟩ := HBD.out k hk
  by_cases hlt : k < 9
  ·have hk9 : (k : Int) < 9 := by omega
   have hst : ∀ c, (partF s.data.toList)[k]? = some c -> valD ((partF s.data.toList).take (k + 1)) = valD ((partF s.data.toList).take k) * 10 + (((c.toNat : Nat) : Int) - 48) := fun c h => HPS.out k c h
   obtain ⟨T, hT⟩ : ∃ T, valD ((partF s.data.toList).take k) = T := ⟨_, rfl⟩
   rw [hT] at t0 t1 hst
   rw [hT]
   have HST := Lib.hid hst
   clear hT hst
   by_cases hin : 21 + k < s.size
   ·have q1 : decide ((20 : Int) < (s.size : Int)) = true := decide_eq_true (by omega)
    obtain rfl : x = true := hx.symm.trans q1
    have q2 : decide ((20 : Int) + (k : Int) < (s.size : Int) - 1) = true := decide_eq_true (by omega)
    have hks : 20 + k < s.size := by omega
    have hks' : (20 : Int) + (k : Int) < (s.size : Int) := by omega
    have hg := HGE.out (20 + k) hks
    have hgp := HPI.out k hin
    obtain ⟨c, hc⟩ : ∃ c, s[20 + k] = c := ⟨_, rfl⟩
    rw [hc] at hg
    rw [hg] at hgp
    have HE := Lib.hid (HST.out c hgp)
    have hcl := c.toNat_lt
    have c0 : (0 : Int) <= ((c.toNat : Nat) : Int) := Int.natCast_nonneg _
    have c256 : ((c.toNat : Nat) : Int) < 256 := by omega
    clear hg hgp
    have htn : ((20 : Int) + (k : Int)).toNat = 20 + k := by omega
    go_upto_region 7 with fail
    go_wp2_with fail
    go_roundw
    case rel => exact ⟨k + 1, by omega, by go_num, by rw [HE.out]; congr 1; omega, by trivial⟩
    case measure => simp [intOf]; omega
   ·have hgp := HPX.out k hin (by omega)
    have HE := Lib.hid (HST.out 48 hgp)
    clear hgp
    cases x with
    | true =>
      have q2 : decide ((20 : Int) + (k : Int) < (s.size : Int) - 1) = false := decide_eq_false (by omega)
      go_wp2_with fail
      go_roundw
      case rel => exact ⟨k + 1, by omega, by go_num, by rw [HE.out]; congr 1; show _ = T * 10 + ((48 : Int) - 48); omega, by trivial⟩
      case measure => simp [intOf]; omega
    | false =>
      go_wp2_with fail
      go_roundw
      case rel => exact ⟨k + 1, by omega, by go_num, by rw [HE.out]; congr 1; show _ = T * 10 + ((48 : Int) - 48); omega, by trivial⟩
      case measure => simp [intOf]; omega
  ·obtain rfl : k = 9 := by omega
   go_wp2_with fail
   rw [HN.out]
   go_ret
   exact ⟨rfl, rfl⟩
theorem sep_bit {l : List UInt8} {k : Nat} {c d : UInt8} (n : Int) (hn : ((d.toNat : Nat) : Int) = n) (h : l[k]? = some c) : decide (l[k]? = some d) = !(((c.toNat : Nat) : Int) != n) := by
 rw [h, <- hn]
 by_cases e : c = d
 ·rw [e, decide_eq_true rfl]; simp
 ·have h2 : ¬ c.toNat = d.toNat := fun e' => e (UInt8.toNat_inj.1 e')
  rw [decide_eq_false (fun e' => e (Option.some.inj e'))]
  have h3 : ¬ ((c.toNat : Nat) : Int) = ((d.toNat : Nat) : Int) := by omega
  simp [h3]
theorem numR_bound {l : List UInt8} {i n : Nat} : -1 <= numR l i n /\ numR l i n < 10 ^ n := by
 cases h : ((l.drop i).take n).all digU
 ·rw [numR_no h]
  refine ⟨by decide, ?_⟩
  have : (0 : Int) < 10 ^ n := Int.pow_pos (by decide)
  omega
 ·rw [numR_yes h]
  have := numAt_lt h
  omega
theorem le_lt (n k : Int) : decide (n <= k) = !decide (k < n) := by
 by_cases h : n <= k
 ·rw [decide_eq_true h, decide_eq_false (by omega)]; rfl
 ·rw [decide_eq_false h, decide_eq_true (by omega)]; rfl
theorem sel6 : ∀ a b c d e f : Bool, (a = true \/ (a = false /\ b = true) \/ (a = false /\ b = false /\ c = true) \/ (a = false /\ b = false /\ c = false /\ d = true) \/ (a = false /\ b = false /\ c = false /\ d = false /\ e = true) \/ (a = false /\ b = false /\ c = false /\ d = false /\ e = false /\ f = true)) \/ (a = false /\ b = false /\ c = false /\ d = false /\ e = false /\ f = false) := by
 intro a b c d e f
 cases a <;> cases b <;> cases c <;> cases d <;> cases e <;> cases f <;> simp
theorem sel5 : ∀ a b c d e : Bool, (a = true \/ (a = false /\ b = true) \/ (a = false /\ b = false /\ c = true)) \/ ((a = false /\ b = false /\ c = false /\ d = true) \/ (a = false /\ b = false /\ c = false /\ d = false /\ e = true) \/ (a = false /\ b = false /\ c = false /\ d = false /\ e = false)) := by
 intro a b c d e
 cases a <;> cases b <;> cases c <;> cases d <;> cases e <;> simp
theorem flip_ne (x y : Int) (b : Bool) (h : (x != y) = b) : (x == y) = !b := by
 rw [<- h]; unfold bne; simp
theorem rsec_any (s : ByteArray) (w : World) (hs : s.size <= maxLen) : Calls Tryz.prog 45 #[.string s] w fun e w' => e = .returned (secRet (secR s.data.toList)) /\ w = w' := by
 have HGE : Hid (∀ k, (h : k < s.size) -> s.data.toList[k]? = some s[k]) := fun k h => get_optS h
 have hsz : s.data.toList.length = s.size := by rw [Array.length_toList]; rfl
 have HSR : Hid (secR s.data.toList = if sepR s.data.toList then (match daysF (numR s.data.toList 0 4) (numR s.data.toList 5 2) (numR s.data.toList 8 2) with
  | none => none
  | some d => if timeR (numR s.data.toList 11 2) (numR s.data.toList 14 2) (numR s.data.toList 17 2) then (if fracR s.data.toList then some (d * 86400 + numR s.data.toList 11 2 * 3600 + numR s.data.toList 14 2 * 60 + numR s.data.toList 17 2) else none) else none) else none) := rfl
 have hs2 := hs
 unfold maxLen at hs
 have s0 : (0 : Int) <= (s.size : Int) := Int.natCast_nonneg _
 obtain ⟨R, hR⟩ : ∃ R, secR s.data.toList = R := ⟨_, rfl⟩
 rw [hR] at HSR
 rw [hR]
 clear hR
 by_cases h20 : s.size < 20
 ·have q0 : decide ((s.size : Int) < 20) = true := decide_eq_true (by omega)
  have HRR : Hid (R = none) := by unfold Hid; rw [HSR.out]; unfold sepR; rw [hsz, decide_eq_false (by omega)]; rfl
  clear HSR hsz HGE hs2
  go_enter Tryz.func45, Tryz.ntmps45
  go_wp2_with fail
  rw [HRR.out]
  refine bodyPost_ret (v := .tuple #[.int .i64 0, .bool false]) (by simp [results, Tryz.results45, go_sem]) rfl ⟨rfl, rfl⟩
 ·have q0 : decide ((s.size : Int) < 20) = false := decide_eq_false (by omega)
  have hs20 : 20 <= s.size := by omega
  have s20 : (20 : Int) <= (s.size : Int) := by omega
  have HN11 : Hid (∀ W, Calls Tryz.prog 84 #[.string s, .int .i64 11, .int .i64 2] W fun e w' => e = .returned (.int .i64 (numR s.data.toList 11 2)) /\ W = w') := fun W => rnumber_any s 11 2 W hs2 (by omega) (by omega)
  have HN14 : Hid (∀ W, Calls Tryz.prog 84 #[.string s, .int .i64 14, .int .i64 2] W fun e w' => e = .returned (.int .i64 (numR s.data.toList 14 2)) /\ W = w') := fun W => rnumber_any s 14 2 W hs2 (by omega) (by omega)
  have HN17 : Hid (∀ W, Calls Tryz.prog 84 #[.string s, .int .i64 17, .int .i64 2] W fun e w' => e = .returned (.int .i64 (numR s.data.toList 17 2)) /\ W = w') := fun W => rnumber_any s 17 2 W hs2 (by omega) (by omega)
  have HN0 : Hid (∀ W, Calls Tryz.prog 84 #[.string s, .int .i64 0, .int .i64 4] W fun e w' => e = .returned (.int .i64 (numR s.data.toList 0 4)) /\ W = w') := fun W => rnumber_any s 0 4 W hs2 (by omega) (by omega)
  have HN5 : Hid (∀ W, Calls Tryz.prog 84 #[.string s, .int .i64 5, .int .i64 2] W fun e w' => e = .returned (.int .i64 (numR s.data.toList 5 2)) /\ W = w') := fun W => rnumber_any s 5 2 W hs2 (by omega) (by omega)
  have HN8 : Hid (∀ W, Calls Tryz.prog 84 #[.string s, .int .i64 8, .int .i64 2] W fun e w' => e = .returned (.int .i64 (numR s.data.toList 8 2)) /\ W = w') := fun W => rnumber_any s 8 2 W hs2 (by omega) (by omega)
  have HNP : Hid (∀ K : Nat, s.size = 21 + K -> K <= 9 -> ∀ W, Calls Tryz.prog 84 #[.string s, .int .i64 20, .int .i64 (K : Int)] W fun e w' => e = .returned (.int .i64 (numR s.data.toList 20 K)) /\ W = w') := fun K e h W => rnumber_any s 20 K W hs2 (by omega) h
  have HDA : Hid (∀ W, Calls Tryz.prog 85 #[.int .i64 (numR s.data.toList 0 4), .int .i64 (numR s.data.toList 5 2), .int .i64 (numR s.data.toList 8 2)] W fun e w' => e = .returned (dayRet (daysF (numR s.data.toList 0 4) (numR s.data.toList 5 2) (numR s.data.toList 8 2))) /\ W = w') := fun W => by
   have a := numR_bound (l := s.data.toList) (i := 0) (n := 4)
   have b := numR_bound (l := s.data.toList) (i := 5) (n := 2)
   have c := numR_bound (l := s.data.toList) (i := 8) (n := 2)
   have p4 : (10 : Int) ^ 4 = 10000 := by decide
   have p2 : (10 : Int) ^ 2 = 100 := by decide
   exact rdays_any _ _ _ W (by omega) (by omega) (by omega) (by omega) (by omega) (by omega)
  have HDB : Hid (∀ D, daysF (numR s.data.toList 0 4) (numR s.data.toList 5 2) (numR s.data.toList 8 2) = some D -> -800000 <= D /\ D <= 4000000) := fun D h => daysF_bound h
  have g4 := HGE.out 4 (by omega)
  have g7 := HGE.out 7 (by omega)
  have g10 := HGE.out 10 (by omega)
  have g13 := HGE.out 13 (by omega)
  have g16 := HGE.out 16 (by omega)
  have g19 := HGE.out 19 (by omega)
  have gz := HGE.out (s.size - 1) (by omega)
  have gy := HGE.out (s.size - 2) (by omega)
  obtain ⟨c4, hc4⟩ : ∃ c, s[4] = c := ⟨_, rfl⟩
  obtain ⟨c7, hc7⟩ : ∃ c, s[7] = c := ⟨_, rfl⟩
  obtain ⟨c10, hc10⟩ : ∃ c, s[10] = c := ⟨_, rfl⟩
  obtain ⟨c13, hc13⟩ : ∃ c, s[13] = c := ⟨_, rfl⟩
  obtain ⟨c16, hc16⟩ : ∃ c, s[16] = c := ⟨_, rfl⟩
  obtain ⟨c19, hc19⟩ : ∃ c, s[19] = c := ⟨_, rfl⟩
  obtain ⟨cz, hcz⟩ : ∃ c, s[s.size - 1] = c := ⟨_, rfl⟩
  obtain ⟨cy, hcy⟩ : ∃ c, s[s.size - 2] = c := ⟨_, rfl⟩
  rw [hc4] at g4
  rw [hc7] at g7
  rw [hc10] at g10
  rw [hc13] at g13
  rw [hc16] at g16
  rw [hc19] at g19
  rw [hcz] at gz
  rw [hcy] at gy
  obtain ⟨b4, hb4⟩ : ∃ b, (((c4.toNat : Nat) : Int) != 45) = b := ⟨_, rfl⟩
  obtain ⟨b7, hb7⟩ : ∃ b, (((c7.toNat : Nat) : Int) != 45) = b := ⟨_, rfl⟩
  obtain ⟨b10, hb10⟩ : ∃ b, (((c10.toNat : Nat) : Int) != 84) = b := ⟨_, rfl⟩
  obtain ⟨b13, hb13⟩ : ∃ b, (((c13.toNat : Nat) : Int) != 58) = b := ⟨_, rfl⟩
  obtain ⟨b16, hb16⟩ : ∃ b, (((c16.toNat : Nat) : Int) != 58) = b := ⟨_, rfl⟩
  obtain ⟨bz, hbz⟩ : ∃ b, (((cz.toNat : Nat) : Int) != 90) = b := ⟨_, rfl⟩
  have HSP : Hid (sepR s.data.toList = !(b4 || (b7 || (b10 || (b13 || (b16 || bz)))))) := by
   unfold Hid sepR
   rw [hsz, decide_eq_true hs20, sep_bit 45 rfl g4, sep_bit 45 rfl g7, sep_bit 84 rfl g10, sep_bit 58 rfl g13, sep_bit 58 rfl g16, sep_bit 90 rfl gz, hb4, hb7, hb10, hb13, hb16, hbz]
   cases b4 <;> cases b7 <;> cases b10 <;> cases b13 <;> cases b16 <;> cases bz <;> rfl
  have HFR : Hid (fracR s.data.toList = (decide (s.size <= 20) || (decide (s.data.toList[19]? = some 46) && (decide (1 <= s.size - 21) && (decide (s.size - 21 <= 9) && (decide (0 <= numR s.data.toList 20 (s.size - 21)) && decide (s.data.toList[s.size - 2]? ≠ some 48))))))) := by
   unfold Hid fracR
   rw [hsz]
  have HG19 := Lib.hid g19
  have HGY := Lib.hid gy
  obtain ⟨Y, hY⟩ : ∃ n, numR s.data.toList 0 4 = n := ⟨_, rfl⟩
  obtain ⟨M, hM⟩ : ∃ n, numR s.data.toList 5 2 = n := ⟨_, rfl⟩
  obtain ⟨D, hD⟩ : ∃ n, numR s.data.toList 8 2 = n := ⟨_, rfl⟩
  obtain ⟨H, hH⟩ : ∃ n, numR s.data.toList 11 2 = n := ⟨_, rfl⟩
  obtain ⟨I, hI⟩ : ∃ n, numR s.data.toList 14 2 = n := ⟨_, rfl⟩
  obtain ⟨C, hC⟩ : ∃ n, numR s.data.toList 17 2 = n := ⟨_, rfl⟩
  rw [hY] at HN0 HDA HDB HSR
  rw [hM] at HN5 HDA HDB HSR
  rw [hD] at HN8 HDA HDB HSR
  rw [hH] at HN11 HSR
  rw [hI] at HN14 HSR
  rw [hC] at HN17 HSR
  rw [HSP.out] at HSR
  obtain ⟨bad, hbad⟩ : ∃ b, (b4 || (b7 || (b10 || (b13 || (b16 || bz))))) = b := ⟨_, rfl⟩
  rw [hbad] at HSR
  have HBD := Lib.hid hbad
  clear hbad HSP hY hM hD hH hI hC g4 g7 g10 g13 g16 g19 gz gy
  have e4 := flip_ne _ _ _ hb4
  have e7 := flip_ne _ _ _ hb7
  have e10 := flip_ne _ _ _ hb10
  have e13 := flip_ne _ _ _ hb13
  have e16 := flip_ne _ _ _ hb16
  have ez := flip_ne _ _ _ hbz
  have x4 : 4 < s.size := by omega
  have x7 : 7 < s.size := by omega
  have x10 : 10 < s.size := by omega
  have x13 : 13 < s.size := by omega
  have x16 : 16 < s.size := by omega
  have xz : s.size - 1 < s.size := by omega
  have tz : ((s.size : Int) - 1).toNat = s.size - 1 := by omega
  have ty : ((s.size : Int) - 2).toNat = s.size - 2 := by omega
  go_enter Tryz.func45, Tryz.ntmps45
  go_upto_region 1 with fail
  go_cut [45] from 10 to 45 (fun v wq => v = .bool bad /\ wq = w)
  case first =>
   rcases sel6 b4 b7 b10 b13 b16 bz with (rfl | ⟨rfl, rfl⟩ | ⟨rfl, rfl, rfl⟩ | ⟨rfl, rfl, rfl, rfl⟩ | ⟨rfl, rfl, rfl, rfl, rfl⟩ | ⟨rfl, rfl, rfl, rfl, rfl, rfl⟩) | ⟨rfl, rfl, rfl, rfl, rfl, rfl⟩
   all_goals
    simp only [Bool.not_false, Bool.not_true] at e4
    try simp only [Bool.not_false, Bool.not_true] at e7
    try simp only [Bool.not_false, Bool.not_true] at e10
    try simp only [Bool.not_false, Bool.not_true] at e13
    try simp only [Bool.not_false, Bool.not_true] at e16
    try simp only [Bool.not_false, Bool.not_true] at ez
    go_wp2_with fail
    go_meet
    exact ⟨by rw [<- HBD.out]; rfl, rfl⟩
  case rest =>
  obtain ⟨rfl, hwc⟩ := hcut
  obtain rfl : w = wc := hwc.symm
  clear hb4 hb7 hb10 hb13 hb16 hbz e4 e7 e10 e13 e16 ez HBD hc4 hc7 hc10 hc13 hc16 hcz x4 x7 x10 x13 x16
  cases bad with
  | true =>
    have HRR : Hid (R = none) := HSR.out
    clear HSR
    go_wp2_with fail
    rw [HRR.out]
    refine bodyPost_ret (v := .tuple #[.int .i64 0, .bool false]) (by simp [results, Tryz.results45, go_sem]) rfl ⟨rfl, rfl⟩
  | false =>
    have HS2 : Hid (R = match daysF Y M D with
     | none => none
     | some d => if timeR H I C then (if fracR s.data.toList then some (d * 86400 + H * 3600 + I * 60 + C) else none) else none) := HSR.out
    clear HSR
    obtain ⟨o, ho⟩ : ∃ o, daysF Y M D = o := ⟨_, rfl⟩
    rw [ho] at HDA HDB HS2
    clear ho
    cases o with
    | none =>
      have HRR : Hid (R = none) := HS2.out
      clear HS2
      unfold dayRet at HDA
      dsimp only at HDA
      go_wp2_with (first | (go_at_call 84; (with_reducible refine (HN11.out _).mono ?_); rintro e w1 ⟨rfl, rfl⟩) | (go_at_call 84; (with_reducible refine (HN14.out _).mono ?_); rintro e w1 ⟨rfl, rfl⟩) | (go_at_call 84; (with_reducible refine (HN17.out _).mono ?_); rintro e w1 ⟨rfl, rfl⟩) | (go_at_call 84; (with_reducible refine (HN0.out _).mono ?_); rintro e w1 ⟨rfl, rfl⟩) | (go_at_call 84; (with_reducible refine (HN5.out _).mono ?_); rintro e w1 ⟨rfl, rfl⟩) | (go_at_call 84; (with_reducible refine (HN8.out _).mono ?_); rintro e w1 ⟨rfl, rfl⟩) | (go_at_call 85; (with_reducible refine (HDA.out _).mono ?_); rintro e w1 ⟨rfl, rfl⟩) | fail)
      rw [HRR.out]
      refine bodyPost_ret (v := .tuple #[.int .i64 0, .bool false]) (by simp [results, Tryz.results45, go_sem]) rfl ⟨rfl, rfl⟩
    | some d =>
      have hdb := HDB.out d rfl
      obtain ⟨d0, d1⟩ := hdb
      have HS3 : Hid (R = if timeR H I C then (if fracR s.data.toList then some (d * 86400 + H * 3600 + I * 60 + C) else none) else none) := HS2.out
      clear HS2 HDB
      unfold dayRet at HDA
      dsimp only at HDA
      obtain ⟨a1, ha1⟩ : ∃ b, decide (H < 0) = b := ⟨_, rfl⟩
      obtain ⟨a2, ha2⟩ : ∃ b, decide ((23 : Int) < H) = b := ⟨_, rfl⟩
      obtain ⟨a3, ha3⟩ : ∃ b, decide (I < 0) = b := ⟨_, rfl⟩
      obtain ⟨a4, ha4⟩ : ∃ b, decide ((59 : Int) < I) = b := ⟨_, rfl⟩
      obtain ⟨a5, ha5⟩ : ∃ b, decide (C < 0) = b := ⟨_, rfl⟩
      obtain ⟨a6, ha6⟩ : ∃ b, decide ((59 : Int) < C) = b := ⟨_, rfl⟩
      have HTM : Hid (timeR H I C = !(a1 || (a2 || (a3 || (a4 || (a5 || a6)))))) := by
       unfold Hid timeR
       rw [le_lt, le_lt, le_lt, le_lt, le_lt, le_lt, ha1, ha2, ha3, ha4, ha5, ha6]
       cases a1 <;> cases a2 <;> cases a3 <;> cases a4 <;> cases a5 <;> cases a6 <;> rfl
      rw [HTM.out] at HS3
      obtain ⟨bad, hbad⟩ : ∃ b, (a1 || (a2 || (a3 || (a4 || (a5 || a6))))) = b := ⟨_, rfl⟩
      rw [hbad] at HS3
      have HBD := Lib.hid hbad
      clear hbad HTM
      go_upto_region 7 with (first | (go_at_call 84; (with_reducible refine (HN11.out _).mono ?_); rintro e w1 ⟨rfl, rfl⟩) | (go_at_call 84; (with_reducible refine (HN14.out _).mono ?_); rintro e w1 ⟨rfl, rfl⟩) | (go_at_call 84; (with_reducible refine (HN17.out _).mono ?_); rintro e w1 ⟨rfl, rfl⟩) | (go_at_call 84; (with_reducible refine (HN0.out _).mono ?_); rintro e w1 ⟨rfl, rfl⟩) | (go_at_call 84; (with_reducible refine (HN5.out _).mono ?_); rintro e w1 ⟨rfl, rfl⟩) | (go_at_call 84; (with_reducible refine (HN8.out _).mono ?_); rintro e w1 ⟨rfl, rfl⟩) | (go_at_call 85; (with_reducible refine (HDA.out _).mono ?_); rintro e w1 ⟨rfl, rfl⟩) | fail)
      go_cut [87] from 62 to 87 (fun v wq => v = .bool bad /\ wq = w)
      case first =>
       rcases sel6 a1 a2 a3 a4 a5 a6 with (rfl | ⟨rfl, rfl⟩ | ⟨rfl, rfl, rfl⟩ | ⟨rfl, rfl, rfl, rfl⟩ | ⟨rfl, rfl, rfl, rfl, rfl⟩ | ⟨rfl, rfl, rfl, rfl, rfl, rfl⟩) | ⟨rfl, rfl, rfl, rfl, rfl, rfl⟩
       all_goals
        go_wp2_with fail
        go_meet
        exact ⟨by rw [<- HBD.out]; rfl, rfl⟩
      case rest =>
      obtain ⟨rfl, hwc⟩ := hcut
      obtain rfl : w = wc := hwc.symm
      cases bad with
      | true =>
        have HRR : Hid (R = none) := HS3.out
        clear HS3 HBD
        go_wp2_with fail
        rw [HRR.out]
        refine bodyPost_ret (v := .tuple #[.int .i64 0, .bool false]) (by simp [results, Tryz.results45, go_sem]) rfl ⟨rfl, rfl⟩
      | false =>
        have hall := HBD.out
        simp only [Bool.or_eq_false_iff] at hall
        obtain ⟨rfl, rfl, rfl, rfl, rfl, rfl⟩ := hall
        have j1 := of_decide_eq_false ha1
        have j2 := of_decide_eq_false ha2
        have j3 := of_decide_eq_false ha3
        have j4 := of_decide_eq_false ha4
        have j5 := of_decide_eq_false ha5
        have j6 := of_decide_eq_false ha6
        have HS4 : Hid (R = if fracR s.data.toList then some (d * 86400 + H * 3600 + I * 60 + C) else none) := HS3.out
        clear HS3 HBD ha1 ha2 ha3 ha4 ha5 ha6 HN11 HN14 HN17 HN0 HN5 HN8 HDA
        have l0 : (0 : Int) <= H := by omega
        have l1 : H <= 23 := by omega
        have l2 : (0 : Int) <= I := by omega
        have l3 : I <= 59 := by omega
        have l4 : (0 : Int) <= C := by omega
        have l5 : C <= 59 := by omega
        clear j1 j2 j3 j4 j5 j6
        by_cases h21 : s.size = 20
        ·have q1 : decide ((20 : Int) < (s.size : Int)) = false := decide_eq_false (by omega)
         have HRR : Hid (R = some (d * 86400 + H * 3600 + I * 60 + C)) := by unfold Hid; rw [HS4.out, HFR.out, decide_eq_true (by omega)]; rfl
         clear HS4 HFR
         go_wp2_with fail
         rw [HRR.out]
         refine bodyPost_ret (v := .tuple #[.int .i64 (d * 86400 + H * 3600 + I * 60 + C), .bool true]) (by simp [results, Tryz.results45, go_sem]) rfl ⟨rfl, rfl⟩
        ·have q1 : decide ((20 : Int) < (s.size : Int)) = true := decide_eq_true (by omega)
         obtain ⟨K, hK⟩ : ∃ K, s.size = 21 + K := ⟨s.size - 21, by omega⟩
         have hKe : (s.size : Int) - 21 = (K : Int) := by omega
         have HP := Lib.hid (HNP.out K hK)
         have k0 : (0 : Int) <= (K : Int) := Int.natCast_nonneg _
         have kk : (K : Int) <= 9223372036854775807 := by omega
         obtain ⟨P, hP⟩ : ∃ P, numR s.data.toList 20 K = P := ⟨_, rfl⟩
         rw [hP] at HP
         obtain ⟨f1, hf1⟩ : ∃ b, (((c19.toNat : Nat) : Int) != 46) = b := ⟨_, rfl⟩
         obtain ⟨f2, hf2⟩ : ∃ b, decide ((K : Int) < 1) = b := ⟨_, rfl⟩
         obtain ⟨f3, hf3⟩ : ∃ b, decide ((9 : Int) < (K : Int)) = b := ⟨_, rfl⟩
         obtain ⟨f4, hf4⟩ : ∃ b, decide (P < 0) = b := ⟨_, rfl⟩
         obtain ⟨f5, hf5⟩ : ∃ b, (((cy.toNat : Nat) : Int) == 48) = b := ⟨_, rfl⟩
         have HFF : Hid (fracR s.data.toList = !(f1 || (f2 || (f3 || (f4 || f5))))) := by
          unfold Hid
          have e5 : decide (s.data.toList[s.size - 2]? ≠ some 48) = !f5 := by
           rw [decide_not, sep_bit 48 rfl HGY.out, <- hf5]
           unfold bne
           simp
          have e2 : decide (1 <= s.size - 21) = !f2 := by
           rw [<- hf2, <- le_lt]
           exact decide_eq_decide.2 (by omega)
          have e3 : decide (s.size - 21 <= 9) = !f3 := by
           rw [<- hf3, <- le_lt]
           exact decide_eq_decide.2 (by omega)
          rw [HFR.out, decide_eq_false (p := s.size <= 20) (by omega), Bool.false_or, sep_bit 46 rfl HG19.out, hf1, e2, e3, e5, show s.size - 21 = K by omega, hP, le_lt, hf4]
          cases f1 <;> cases f2 <;> cases f3 <;> cases f4 <;> cases f5 <;> rfl
         rw [HFF.out] at HS4
         obtain ⟨bad, hbad⟩ : ∃ b, (f1 || (f2 || (f3 || (f4 || f5)))) = b := ⟨_, rfl⟩
         rw [hbad] at HS4
         have HBD := Lib.hid hbad
         clear hbad HFF HFR HNP HGY HG19 hP h21
         have ef := flip_ne _ _ _ hf1
         have x19 : 19 < s.size := by omega
         have xy : s.size - 2 < s.size := by omega
         have HKK := Lib.hid hK
         clear hK
         go_upto_region 11 with fail
         try rw [hKe]
         go_cut [118] from 94 to 118 (fun v wq => v = .bool bad /\ wq = w)
         case first =>
          rcases sel5 f1 f2 f3 f4 f5 with (rfl | ⟨rfl, rfl⟩ | ⟨rfl, rfl, rfl⟩) | (⟨rfl, rfl, rfl, rfl⟩ | ⟨rfl, rfl, rfl, rfl, rfl⟩ | ⟨rfl, rfl, rfl, rfl, rfl⟩)
          all_goals
           simp only [Bool.not_false, Bool.not_true] at ef
           try have HP2 := Lib.hid (HP.out (by have := of_decide_eq_false hf3; omega))
           go_wp2_with (first | (go_at_call 84; (with_reducible refine (HP2.out _).mono ?_); rintro e w1 ⟨rfl, rfl⟩) | fail)
           go_meet
           exact ⟨by rw [<- HBD.out]; rfl, rfl⟩
         case rest =>
         obtain ⟨rfl, hwc⟩ := hcut
         obtain rfl : w = wc := hwc.symm
         clear hf1 hf2 hf3 hf4 hf5 ef HP HBD
         cases bad with
         | true =>
           have HRR : Hid (R = none) := HS4.out
           clear HS4
           go_wp2_with fail
           rw [HRR.out]
           refine bodyPost_ret (v := .tuple #[.int .i64 0, .bool false]) (by simp [results, Tryz.results45, go_sem]) rfl ⟨rfl, rfl⟩
         | false =>
           have HRR : Hid (R = some (d * 86400 + H * 3600 + I * 60 + C)) := HS4.out
           clear HS4
           go_wp2_with fail
           rw [HRR.out]
           refine bodyPost_ret (v := .tuple #[.int .i64 (d * 86400 + H * 3600 + I * 60 + C), .bool true]) (by simp [results, Tryz.results45, go_sem]) rfl ⟨rfl, rfl⟩
theorem cmpB_bound : ∀ a b : List UInt8, -1 <= Go.Lib.compareBytes a b /\ Go.Lib.compareBytes a b <= 1
 | [], [] => by decide
 | [], _ :: _ => ⟨show (-1 : Int) <= -1 by decide, show (-1 : Int) <= 1 by decide⟩
 | _ :: _, [] => ⟨show (-1 : Int) <= 1 by decide, show (1 : Int) <= 1 by decide⟩
 | x :: a, y :: b => by
   unfold Go.Lib.compareBytes
   split
   ·decide
   ·split
    ·decide
    ·exact cmpB_bound a b
theorem bytesLess_cmp : ∀ a b : List UInt8, Op.bytesLess a b = decide (Go.Lib.compareBytes a b < 0)
 | [], [] => by decide
 | [], _ :: _ => by unfold Op.bytesLess; exact (decide_eq_true (show (-1 : Int) < 0 by decide)).symm
 | _ :: _, [] => by unfold Op.bytesLess; exact (decide_eq_false (show ¬ (1 : Int) < 0 by decide)).symm
 | x :: a, y :: b => by
   have ih := bytesLess_cmp a b
   unfold Op.bytesLess Go.Lib.compareBytes
   by_cases h : x < y
   ·rw [if_pos h, decide_eq_true h]
    rfl
   ·rw [if_neg h, decide_eq_false h]
    by_cases h2 : y < x
    ·have hne : x ≠ y := fun e => by rw [e] at h2; exact UInt8.lt_irrefl _ h2
     rw [if_pos h2]
     have : (x == y) = false := by simpa using hne
     rw [this]
     rfl
    ·have he : x = y := UInt8.le_antisymm (UInt8.not_lt.1 h2) (UInt8.not_lt.1 h)
     rw [if_neg h2]
     subst he
     rw [ih]
     simp
theorem beq_cmp : ∀ a b : List UInt8, (a == b) = decide (Go.Lib.compareBytes a b = 0)
 | [], [] => by decide
 | [], _ :: _ => by exact (decide_eq_false (show ¬ (-1 : Int) = 0 by decide)).symm
 | _ :: _, [] => by exact (decide_eq_false (show ¬ (1 : Int) = 0 by decide)).symm
 | x :: a, y :: b => by
   have ih := beq_cmp a b
   unfold Go.Lib.compareBytes
   by_cases h : x < y
   ·have hne : x ≠ y := fun e => by rw [e] at h; exact UInt8.lt_irrefl _ h
    rw [if_pos h]
    simp [hne]
   ·rw [if_neg h]
    by_cases h2 : y < x
    ·have hne : x ≠ y := fun e => by rw [e] at h2; exact UInt8.lt_irrefl _ h2
     rw [if_pos h2]
     simp [hne]
    ·have he : x = y := UInt8.le_antisymm (UInt8.not_lt.1 h2) (UInt8.not_lt.1 h)
     rw [if_neg h2, <- ih]
     subst he
     simp
theorem rscomp_any (s t : ByteArray) (w : World) (hs : s.size <= maxLen) (ht : t.size <= maxLen) : Calls Tryz.prog 16 #[.string s, .string t] w fun e w' => e = .returned (.int .i64 (cmpS s.data.toList t.data.toList)) /\ w = w' := by
 have HSA : Hid (∀ W, Calls Tryz.prog 45 #[.string s] W fun e w' => e = .returned (secRet (secF s.data.toList)) /\ W = w') := fun W => by rw [<- secR_eq]; exact rsec_any s W hs
 have HSB : Hid (∀ W, Calls Tryz.prog 45 #[.string t] W fun e w' => e = .returned (secRet (secF t.data.toList)) /\ W = w') := fun W => by rw [<- secR_eq]; exact rsec_any t W ht
 have HR : Hid (cmpS s.data.toList t.data.toList = match secF s.data.toList, secF t.data.toList with
  | none, none => Go.Lib.compareBytes s.data.toList t.data.toList
  | none, some _ => -1
  | some _, none => 1
  | some x, some y => if x < y then -1 else if y < x then 1 else Go.Lib.compareBytes (partF s.data.toList) (partF t.data.toList)) := rfl
 obtain ⟨R, hR⟩ : ∃ R, cmpS s.data.toList t.data.toList = R := ⟨_, rfl⟩
 rw [hR] at HR
 rw [hR]
 clear hR
 have HPA : Hid (∀ x, secF s.data.toList = some x -> ∀ W, Calls Tryz.prog 46 #[.string s] W fun e w' => e = .returned (.int .i64 (partN s.data.toList)) /\ W = w') := fun x h W => rpart_any s W (secF_tl h).2
 have HPB : Hid (∀ x, secF t.data.toList = some x -> ∀ W, Calls Tryz.prog 46 #[.string t] W fun e w' => e = .returned (.int .i64 (partN t.data.toList)) /\ W = w') := fun x h W => rpart_any t W (secF_tl h).2
 have HCP : Hid (∀ x y, secF s.data.toList = some x -> secF t.data.toList = some y -> Go.Lib.compareBytes (partF s.data.toList) (partF t.data.toList) = sgnI (partN s.data.toList - partN t.data.toList)) := fun x y hx hy => cmp_part (secF_tl hx).2 (secF_tl hy).2
 have hl : Op.bytesLess s.toList t.toList = decide (Go.Lib.compareBytes s.data.toList t.data.toList < 0) := by rw [ByteArray.toList_eq, ByteArray.toList_eq]; exact bytesLess_cmp _ _
 have hg : (s.toList == t.toList) = decide (Go.Lib.compareBytes s.data.toList t.data.toList = 0) := by rw [ByteArray.toList_eq, ByteArray.toList_eq]; exact beq_cmp _ _
 have hb := cmpB_bound s.data.toList t.data.toList
 obtain ⟨cp, hcp⟩ : ∃ n, Go.Lib.compareBytes (partF s.data.toList) (partF t.data.toList) = n := ⟨_, rfl⟩
 obtain ⟨cm, hcm⟩ : ∃ n, Go.Lib.compareBytes s.data.toList t.data.toList = n := ⟨_, rfl⟩
 rw [hcp] at HR HCP
 rw [hcm] at HR hl hg hb
 obtain ⟨PA, hPA⟩ : ∃ P, partN s.data.toList = P := ⟨_, rfl⟩
 obtain ⟨PB, hPB⟩ : ∃ P, partN t.data.toList = P := ⟨_, rfl⟩
 rw [hPA] at HPA HCP
 rw [hPB] at HPB HCP
 obtain ⟨oa, hoa⟩ : ∃ o, secF s.data.toList = o := ⟨_, rfl⟩
 obtain ⟨ob, hob⟩ : ∃ o, secF t.data.toList = o := ⟨_, rfl⟩
 rw [hoa] at HSA HPA HR HCP
 rw [hob] at HSB HPB HR HCP
 clear hPA hPB hcp hcm hoa hob hs ht
 unfold secRet at HSA HSB
 cases oa with
 | none => cases ob with
   | none =>
     have HRR : Hid (R = cm) := HR.out
     clear HR HPA HPB HCP
     dsimp only at HSA HSB
     rcases (show cm = -1 \/ cm = 0 \/ cm = 1 by omega) with rfl | rfl | rfl
     all_goals
      have hl2 : Op.bytesLess s.toList t.toList = _ := hl.trans (by first | exact decide_eq_true (by decide) | exact decide_eq_false (by decide))
      have hg2 : (s.toList == t.toList) = _ := hg.trans (by first | exact decide_eq_true (by decide) | exact decide_eq_false (by decide))
      clear hl hg hb
      go_enter Tryz.func16, Tryz.ntmps16
      go_wp2_with (first | (go_at_call 45; (with_reducible refine (HSA.out _).mono ?_); rintro e w1 ⟨rfl, rfl⟩) | (go_at_call 45; (with_reducible refine (HSB.out _).mono ?_); rintro e w2 ⟨rfl, rfl⟩) | fail)
      rw [HRR.out]
      go_ret
      exact ⟨rfl, rfl⟩
   | some y =>
     have HRR : Hid (R = -1) := HR.out
     clear HR HPA HPB HCP hl hg hb
     dsimp only at HSA HSB
     go_enter Tryz.func16, Tryz.ntmps16
     go_wp2_with (first | (go_at_call 45; (with_reducible refine (HSA.out _).mono ?_); rintro e w1 ⟨rfl, rfl⟩) | (go_at_call 45; (with_reducible refine (HSB.out _).mono ?_); rintro e w2 ⟨rfl, rfl⟩) | fail)
     rw [HRR.out]
     go_ret
     exact ⟨rfl, rfl⟩
 | some x => cases ob with
   | none =>
     have HRR : Hid (R = 1) := HR.out
     clear HR HPA HPB HCP hl hg hb
     dsimp only at HSA HSB
     go_enter Tryz.func16, Tryz.ntmps16
     go_wp2_with (first | (go_at_call 45; (with_reducible refine (HSA.out _).mono ?_); rintro e w1 ⟨rfl, rfl⟩) | (go_at_call 45; (with_reducible refine (HSB.out _).mono ?_); rintro e w2 ⟨rfl, rfl⟩) | fail)
     rw [HRR.out]
     go_ret
     exact ⟨rfl, rfl⟩
   | some y =>
     have HQA := Lib.hid (HPA.out x rfl)
     have HQB := Lib.hid (HPB.out y rfl)
     have hcp := HCP.out x y rfl rfl
     clear HPA HPB HCP hl hg hb
     dsimp only at HSA HSB
     by_cases hxy : x = y
     ·subst hxy
      have q1 : (x == x) = true := by simp
      have HRR : Hid (R = cp) := HR.out.trans ((if_neg (Int.lt_irrefl _)).trans (if_neg (Int.lt_irrefl _)))
      clear HR
      rcases (show PA < PB \/ PA = PB \/ PB < PA by omega) with h | h | h
      ·have hv : cp = -1 := by rw [hcp]; unfold sgnI; rw [if_pos (by omega)]
       subst hv
       clear hcp
       have q2 : decide (PA < PB) = true := decide_eq_true h
       go_enter Tryz.func16, Tryz.ntmps16
       go_wp2_with (first | (go_at_call 45; (with_reducible refine (HSA.out _).mono ?_); rintro e w1 ⟨rfl, rfl⟩) | (go_at_call 45; (with_reducible refine (HSB.out _).mono ?_); rintro e w2 ⟨rfl, rfl⟩) | (go_at_call 46; (with_reducible refine (HQA.out _).mono ?_); rintro e w3 ⟨rfl, rfl⟩) | (go_at_call 46; (with_reducible refine (HQB.out _).mono ?_); rintro e w3 ⟨rfl, rfl⟩) | fail)
       rw [HRR.out]
       go_ret
       exact ⟨rfl, rfl⟩
      ·subst h
       have hv : cp = 0 := by rw [hcp]; unfold sgnI; rw [if_neg (by omega), if_neg (by omega)]
       subst hv
       clear hcp
       have q2 : decide (PA < PA) = false := decide_eq_false (Int.lt_irrefl _)
       go_enter Tryz.func16, Tryz.ntmps16
       go_wp2_with (first | (go_at_call 45; (with_reducible refine (HSA.out _).mono ?_); rintro e w1 ⟨rfl, rfl⟩) | (go_at_call 45; (with_reducible refine (HSB.out _).mono ?_); rintro e w2 ⟨rfl, rfl⟩) | (go_at_call 46; (with_reducible refine (HQA.out _).mono ?_); rintro e w3 ⟨rfl, rfl⟩) | (go_at_call 46; (with_reducible refine (HQB.out _).mono ?_); rintro e w3 ⟨rfl, rfl⟩) | fail)
       rw [HRR.out]
       go_ret
       exact ⟨rfl, rfl⟩
      ·have hv : cp = 1 := by rw [hcp]; unfold sgnI; rw [if_neg (by omega), if_pos (by omega)]
       subst hv
       clear hcp
       have q2 : decide (PA < PB) = false := decide_eq_false (by omega)
       have q3 : decide (PB < PA) = true := decide_eq_true h
       go_enter Tryz.func16, Tryz.ntmps16
       go_wp2_with (first | (go_at_call 45; (with_reducible refine (HSA.out _).mono ?_); rintro e w1 ⟨rfl, rfl⟩) | (go_at_call 45; (with_reducible refine (HSB.out _).mono ?_); rintro e w2 ⟨rfl, rfl⟩) | (go_at_call 46; (with_reducible refine (HQA.out _).mono ?_); rintro e w3 ⟨rfl, rfl⟩) | (go_at_call 46; (with_reducible refine (HQB.out _).mono ?_); rintro e w3 ⟨rfl, rfl⟩) | fail)
       rw [HRR.out]
       go_ret
       exact ⟨rfl, rfl⟩
     ·have q1 : (x == y) = false := by simpa using hxy
      clear hcp HQA HQB
      by_cases hlt : x < y
      ·have HRR : Hid (R = -1) := HR.out.trans (if_pos hlt)
       have q2 : decide (x < y) = true := decide_eq_true hlt
       clear HR
       go_enter Tryz.func16, Tryz.ntmps16
       go_wp2_with (first | (go_at_call 45; (with_reducible refine (HSA.out _).mono ?_); rintro e w1 ⟨rfl, rfl⟩) | (go_at_call 45; (with_reducible refine (HSB.out _).mono ?_); rintro e w2 ⟨rfl, rfl⟩) | fail)
       rw [HRR.out]
       go_ret
       exact ⟨rfl, rfl⟩
      ·have HRR : Hid (R = 1) := HR.out.trans ((if_neg hlt).trans (if_pos (by omega)))
       have q2 : decide (x < y) = false := decide_eq_false hlt
       have q3 : decide (y < x) = true := decide_eq_true (by omega)
       clear HR
       go_enter Tryz.func16, Tryz.ntmps16
       go_wp2_with (first | (go_at_call 45; (with_reducible refine (HSA.out _).mono ?_); rintro e w1 ⟨rfl, rfl⟩) | (go_at_call 45; (with_reducible refine (HSB.out _).mono ?_); rintro e w2 ⟨rfl, rfl⟩) | fail)
       rw [HRR.out]
       go_ret
       exact ⟨rfl, rfl⟩
theorem radd_any (t : JV) (r : RV) (name : ByteArray) (u : Value) (L : List ByteArray) (w : World) (B base : Nat) (hBw : B <= base) (hbw : base <= w.heap.size) (ht : TreeOf w B t r) (ot : t.Ok) (hO : Own w base 9 encS 1 u L) (hL : L.length <= 2000000000000) :
 Calls Tryz.prog 63 #[u, r.val, .string name] w fun e w' => ∃ v, e = .returned v /\ Own w' base 9 encS 1 v (L ++ textM t name) /\ Below base w w' := by
 obtain ⟨W0, hW0⟩ : ∃ W0, w.alloc r.obj = W0 := ⟨_, rfl⟩
 have hA0 : VAt W0 w.heap.size r := by rw [<- hW0]; exact heap_alloc_at rfl
 have hB0 : Below w.heap.size w W0 := by rw [<- hW0]; exact (Below.refl _ _).alloc (Nat.le_refl _) _
 have hO0 : Own W0 base 9 encS 1 u L := by rw [<- hW0]; exact hO.alloc _
 have HC : Hid (Calls Tryz.prog 61 #[r.val, .string name] W0 (GetRetB W0 B (t.get name))) := refGetB_any t r name W0 B (Nat.le_trans (Nat.le_trans hBw hbw) hB0.size) (ht.under (hB0.mono (Nat.le_trans hBw hbw)) (Nat.le_refl _)) ot
 have HTX := Lib.hid (textM_of t name)
 obtain ⟨R, hR⟩ : ∃ R, textM t name = R := ⟨_, rfl⟩
 rw [hR] at HTX
 rw [hR]
 obtain ⟨o, ho⟩ : ∃ o, t.get name = o := ⟨_, rfl⟩
 rw [ho] at HC HTX
 obtain ⟨k, n, s, pl, nl, cl, pm, nm, cm⟩ := r
 dsimp only [RV.val, RV.obj] at *
 have HW := Lib.hid hW0
 have HB0 := Lib.hid hB0
 have HO0 := Lib.hid hO0
 have hw0 := hB0.size
 have HLN : Hid (L.length + [(o.getD JV.zero).s].length <= maxLen /\ (L.length + [(o.getD JV.zero).s].length) * 16 <= 140737488355328) := by
  simp only [List.length_singleton]
  exact ⟨by unfold maxLen; omega, by omega⟩
 clear hW0 hB0 ht ot hR ho hO hO0 hL
 go_enter Tryz.func63, Tryz.ntmps63
 go_upto_region 1 with fail
 rw [HW.out]
 clear HW
 obtain ⟨a0, a1, a2, a3, a4⟩ := hA0.cells5
 go_upto_region 2 with (go_at_call 61; refine HC.out.mono ?_; rintro e w1 ⟨rv, bb, rfl, hbb, ht1, hb1⟩; obtain ⟨rk, rn, rS, rpl, rnl, rcl, rpm, rnm, rcm⟩ := rv)
 obtain ⟨hkk, hss⟩ := ht1.kk
 dsimp only at hkk hss
 have hz1 := hb1.size
 have hb2 : Below W0.heap.size W0 (w1.alloc (.cells #[.int .i64 rk, .int .i64 rn, .string rS, .slice rpl rnl rcl, .slice rpm rnm rcm] 25)) := hb1.alloc hz1 _
 have hv2 : VAt (w1.alloc (.cells #[.int .i64 rk, .int .i64 rn, .string rS, .slice rpl rnl rcl, .slice rpm rnm rcm] 25)) w1.heap.size ⟨rk, rn, rS, rpl, rnl, rcl, rpm, rnm, rcm⟩ := heap_alloc_at rfl
 have hO2 := HO0.out.below hb2 (Nat.le_refl _)
 obtain ⟨g, hg⟩ : ∃ g, w1.heap.size = g := ⟨_, rfl⟩
 obtain ⟨W2, hW2⟩ : ∃ W, w1.alloc (.cells #[.int .i64 rk, .int .i64 rn, .string rS, .slice rpl rnl rcl, .slice rpm rnm rcm] 25) = W := ⟨_, rfl⟩
 rw [hW2] at hb2 hv2 hO2
 rw [hg] at hv2
 try rw [hW2]
 try rw [hg]
 obtain ⟨v0, v1, v2, v3, v4⟩ := hv2.cells5
 dsimp only at v0 v1 v2 v3 v4
 have hbw2 := (HB0.out.trans (hb2.mono hw0)).mono hbw
 have HX := Lib.hid hbw2
 have HO2 := Lib.hid hO2
 have hz2 : base <= W2.heap.size := Nat.le_trans hbw (HB0.out.trans (hb2.mono hw0)).size
 clear hW2 hg hb1 ht1 hb2 hv2 hz1 hbw2 hO2
 cases o with
 | none =>
   obtain rfl : bb = false := hbb
   have HR : Hid (R = []) := by unfold Hid; rw [HTX.out]; exact if_neg (by decide)
   clear hkk hss
   go_wp2_with fail
   rw [HR.out]
   go_ret
   exact ⟨_, rfl, by rw [List.append_nil]; exact HO2.out, HX.out⟩
 | some x =>
   obtain rfl : bb = true := hbb
   by_cases hk4 : rk = 4
   ·subst hk4
    have HR : Hid (R = [rS]) := by unfold Hid; rw [HTX.out, <- hkk, if_pos rfl, hss]
    have HR1 : Hid (Rd (W2.alloc (.cells #[.string rS] 9)) (W2.heap.size + 1) encS 1 (.slice (some ⟨W2.heap.size, 0, none⟩) 1 1) [rS]) := Rd.one codecS (heap_alloc_at rfl) rfl (by omega)
    have HO3 := Lib.hid (HO2.out.alloc (.cells #[.string rS] 9))
    clear hkk hss
    go_wp2_with (at_builtin; refine wpList_append_rd slS codecS (W2.alloc (.cells #[.string rS] 9)) rfl (.tmp 21) (.tmp 24) rfl (v := u) rfl rfl HO3.out HR1.out HLN.out.1 HLN.out.2 (by simp; omega) ?_; intro v8 w8 ho8 hg8 hat8)
    rw [HR.out]
    go_ret
    exact ⟨_, rfl, ho8, Below.appended (HX.out.alloc hz2 _) hg8 HO3.out (by simp; omega)⟩
   ·have q1 : (rk == 4) = false := by simpa using hk4
    have HR : Hid (R = []) := by unfold Hid; rw [HTX.out, <- hkk, if_neg hk4]
    clear hkk hss
    go_wp2_with fail
    rw [HR.out]
    go_ret
    exact ⟨_, rfl, by rw [List.append_nil]; exact HO2.out, HX.out⟩
end
end Go.Proofs.YtffhccmppdgmfaaGreatDoor
