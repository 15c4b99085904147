import Derived.Test.YtffhccmppdgmfaaGreatDoorF19
import Derived.Test.YtffhccmppdgmfaaGreatDoorF16
import Derived.Test.YtffhccmppdgmfaaGreatDoorF12
set_option linter.unusedSimpArgs false
set_option linter.unusedVariables false
set_option maxRecDepth 200000
set_option maxHeartbeats 8000000
namespace Go.Proofs.YtffhccmppdgmfaaGreatDoor
section
open Go Go.RowKit Go.OpenShut
theorem sep_bit {l : List UInt8} {k : Nat} {c d : UInt8} (n : Int) (hn : ((d.toNat : Nat) : Int) = n) (h : l[k]? = some c) : decide (l[k]? = some d) = !(((c.toNat : Nat) : Int) != n) := by
 rw [h, <- hn]
 by_cases e : c = d
 ·rw [e, decide_eq_true rfl]; simp
 ·have h2 : ¬ c.toNat = d.toNat := fun e' => e (UInt8.toNat_inj.1 e')
  rw [decide_eq_false (fun e' => e (Option.some.inj e'))]
  have h3 : ¬ ((c.toNat : Nat) : Int) = ((d.toNat : Nat) : Int) := by omega
  simp [h3]
theorem numR_bound {l : List UInt8} {i n : Nat} : -1 <= numR l i n /\ numR l i n < 10 ^ n := by
 cases h : ((l.drop i).take n).all digU
 ·rw [numR_no h]
  refine ⟨by decide, ?_⟩
  have : (0 : Int) < 10 ^ n := Int.pow_pos (by decide)
  omega
 ·rw [numR_yes h]
  have := numAt_lt h
  omega
theorem le_lt (n k : Int) : decide (n <= k) = !decide (k < n) := by
 by_cases h : n <= k
 ·rw [decide_eq_true h, decide_eq_false (by omega)]; rfl
 ·rw [decide_eq_false h, decide_eq_true (by omega)]; rfl
theorem sel6 : ∀ a b c d e f : Bool, (a = true \/ (a = false /\ b = true) \/ (a = false /\ b = false /\ c = true) \/ (a = false /\ b = false /\ c = false /\ d = true) \/ (a = false /\ b = false /\ c = false /\ d = false /\ e = true) \/ (a = false /\ b = false /\ c = false /\ d = false /\ e = false /\ f = true)) \/ (a = false /\ b = false /\ c = false /\ d = false /\ e = false /\ f = false) := by
 intro a b c d e f
 cases a <;> cases b <;> cases c <;> cases d <;> cases e <;> cases f <;> simp
theorem sel5 : ∀ a b c d e : Bool, (a = true \/ (a = false /\ b = true) \/ (a = false /\ b = false /\ c = true)) \/ ((a = false /\ b = false /\ c = false /\ d = true) \/ (a = false /\ b = false /\ c = false /\ d = false /\ e = true) \/ (a = false /\ b = false /\ c = false /\ d = false /\ e = false)) := by
 intro a b c d e
 cases a <;> cases b <;> cases c <;> cases d <;> cases e <;> simp
theorem flip_ne (x y : Int) (b : Bool) (h : (x != y) = b) : (x == y) = !b := by
 rw [<- h]; unfold bne; simp
theorem rsec_any (s : ByteArray) (w : World) (hs : s.size <= maxLen) : Calls Tryz.prog 45 #[.string s] w fun e w' => e = .returned (secRet (secR s.data.toList)) /\ w = w' := by
 have HGE : Hid (∀ k, (h : k < s.size) -> s.data.toList[k]? = some s[k]) := fun k h => get_optS h
 have hsz : s.data.toList.length = s.size := by rw [Array.length_toList]; rfl
 have HSR : Hid (secR s.data.toList = if sepR s.data.toList then (match daysF (numR s.data.toList 0 4) (numR s.data.toList 5 2) (numR s.data.toList 8 2) with
  | none => none
  | some d => if timeR (numR s.data.toList 11 2) (numR s.data.toList 14 2) (numR s.data.toList 17 2) then (if fracR s.data.toList then some (d * 86400 + numR s.data.toList 11 2 * 3600 + numR s.data.toList 14 2 * 60 + numR s.data.toList 17 2) else none) else none) else none) := rfl
 have hs2 := hs
 unfold maxLen at hs
 have s0 : (0 : Int) <= (s.size : Int) := Int.natCast_nonneg _
 obtain ⟨R, hR⟩ : ∃ R, secR s.data.toList = R := ⟨_, rfl⟩
 rw [hR] at HSR
 rw [hR]
 clear hR
 by_cases h20 : s.size < 20
 ·have q0 : decide ((s.size : Int) < 20) = true := decide_eq_true (by omega)
  have HRR : Hid (R = none) := by unfold Hid; rw [HSR.out]; unfold sepR; rw [hsz, decide_eq_false (by omega)]; rfl
  clear HSR hsz HGE hs2
  go_enter Tryz.func45, Tryz.ntmps45
  go_wp2_with fail
  rw [HRR.out]
  refine bodyPost_ret (v := .tuple #[.int .i64 0, .bool false]) (by simp [results, Tryz.results45, go_sem]) rfl ⟨rfl, rfl⟩
 ·have q0 : decide ((s.size : Int) < 20) = false := decide_eq_false (by omega)
  have hs20 : 20 <= s.size := by omega
  have s20 : (20 : Int) <= (s.size : Int) := by omega
  have HN11 : Hid (∀ W, Calls Tryz.prog 84 #[.string s, .int .i64 11, .int .i64 2] W fun e w' => e = .returned (.int .i64 (numR s.data.toList 11 2)) /\ W = w') := fun W => rnumber_any s 11 2 W hs2 (by omega) (by omega)
  have HN14 : Hid (∀ W, Calls Tryz.prog 84 #[.string s, .int .i64 14, .int .i64 2] W fun e w' => e = .returned (.int .i64 (numR s.data.toList 14 2)) /\ W = w') := fun W => rnumber_any s 14 2 W hs2 (by omega) (by omega)
  have HN17 : Hid (∀ W, Calls Tryz.prog 84 #[.string s, .int .i64 17, .int .i64 2] W fun e w' => e = .returned (.int .i64 (numR s.data.toList 17 2)) /\ W = w') := fun W => rnumber_any s 17 2 W hs2 (by omega) (by omega)
  have HN0 : Hid (∀ W, Calls Tryz.prog 84 #[.string s, .int .i64 0, .int .i64 4] W fun e w' => e = .returned (.int .i64 (numR s.data.toList 0 4)) /\ W = w') := fun W => rnumber_any s 0 4 W hs2 (by omega) (by omega)
  have HN5 : Hid (∀ W, Calls Tryz.prog 84 #[.string s, .int .i64 5, .int .i64 2] W fun e w' => e = .returned (.int .i64 (numR s.data.toList 5 2)) /\ W = w') := fun W => rnumber_any s 5 2 W hs2 (by omega) (by omega)
  have HN8 : Hid (∀ W, Calls Tryz.prog 84 #[.string s, .int .i64 8, .int .i64 2] W fun e w' => e = .returned (.int .i64 (numR s.data.toList 8 2)) /\ W = w') := fun W => rnumber_any s 8 2 W hs2 (by omega) (by omega)
  have HNP : Hid (∀ K : Nat, s.size = 21 + K -> K <= 9 -> ∀ W, Calls Tryz.prog 84 #[.string s, .int .i64 20, .int .i64 (K : Int)] W fun e w' => e = .returned (.int .i64 (numR s.data.toList 20 K)) /\ W = w') := fun K e h W => rnumber_any s 20 K W hs2 (by omega) h
  have HDA : Hid (∀ W, Calls Tryz.prog 85 #[.int .i64 (numR s.data.toList 0 4), .int .i64 (numR s.data.toList 5 2), .int .i64 (numR s.data.toList 8 2)] W fun e w' => e = .returned (dayRet (daysF (numR s.data.toList 0 4) (numR s.data.toList 5 2) (numR s.data.toList 8 2))) /\ W = w') := fun W => by
   have a := numR_bound (l := s.data.toList) (i := 0) (n := 4)
   have b := numR_bound (l := s.data.toList) (i := 5) (n := 2)
   have c := numR_bound (l := s.data.toList) (i := 8) (n := 2)
   have p4 : (10 : Int) ^ 4 = 10000 := by decide
   have p2 : (10 : Int) ^ 2 = 100 := by decide
   exact rdays_any _ _ _ W (by omega) (by omega) (by omega) (by omega) (by omega) (by omega)
  have HDB : Hid (∀ D, daysF (numR s.data.toList 0 4) (numR s.data.toList 5 2) (numR s.data.toList 8 2) = some D -> -800000 <= D /\ D <= 4000000) := fun D h => daysF_bound h
  have g4 := HGE.out 4 (by omega)
  have g7 := HGE.out 7 (by omega)
  have g10 := HGE.out 10 (by omega)
  have g13 := HGE.out 13 (by omega)
  have g16 := HGE.out 16 (by omega)
  have g19 := HGE.out 19 (by omega)
  have gz := HGE.out (s.size - 1) (by omega)
  have gy := HGE.out (s.size - 2) (by omega)
  obtain ⟨c4, hc4⟩ : ∃ c, s[4] = c := ⟨_, rfl⟩
  obtain ⟨c7, hc7⟩ : ∃ c, s[7] = c := ⟨_, rfl⟩
  obtain ⟨c10, hc10⟩ : ∃ c, s[10] = c := ⟨_, rfl⟩
  obtain ⟨c13, hc13⟩ : ∃ c, s[13] = c := ⟨_, rfl⟩
  obtain ⟨c16, hc16⟩ : ∃ c, s[16] = c := ⟨_, rfl⟩
  obtain ⟨c19, hc19⟩ : ∃ c, s[19] = c := ⟨_, rfl⟩
  obtain ⟨cz, hcz⟩ : ∃ c, s[s.size - 1] = c := ⟨_, rfl⟩
  obtain ⟨cy, hcy⟩ : ∃ c, s[s.size - 2] = c := ⟨_, rfl⟩
  rw [hc4] at g4
  rw [hc7] at g7
  rw [hc10] at g10
  rw [hc13] at g13
  rw [hc16] at g16
  rw [hc19] at g19
  rw [hcz] at gz
  rw [hcy] at gy
  obtain ⟨b4, hb4⟩ : ∃ b, (((c4.toNat : Nat) : Int) != 45) = b := ⟨_, rfl⟩
  obtain ⟨b7, hb7⟩ : ∃ b, (((c7.toNat : Nat) : Int) != 45) = b := ⟨_, rfl⟩
  obtain ⟨b10, hb10⟩ : ∃ b, (((c10.toNat : Nat) : Int) != 84) = b := ⟨_, rfl⟩
  obtain ⟨b13, hb13⟩ : ∃ b, (((c13.toNat : Nat) : Int) != 58) = b := ⟨_, rfl⟩
  obtain ⟨b16, hb16⟩ : ∃ b, (((c16.toNat : Nat) : Int) != 58) = b := ⟨_, rfl⟩
  obtain ⟨bz, hbz⟩ : ∃ b, (((cz.toNat : Nat) : Int) != 90) = b := ⟨_, rfl⟩
  have HSP : Hid (sepR s.data.toList = !(b4 || (b7 || (b10 || (b13 || (b16 || bz)))))) := by
   unfold Hid sepR
   rw [hsz, decide_eq_true hs20, sep_bit 45 rfl g4, sep_bit 45 rfl g7, sep_bit 84 rfl g10, sep_bit 58 rfl g13, sep_bit 58 rfl g16, sep_bit 90 rfl gz, hb4, hb7, hb10, hb13, hb16, hbz]
   cases b4 <;> cases b7 <;> cases b10 <;> cases b13 <;> cases b16 <;> cases bz <;> rfl
  have HFR : Hid (fracR s.data.toList = (decide (s.size <= 20) || (decide (s.data.toList[19]? = some 46) && (decide (1 <= s.size - 21) && (decide (s.size - 21 <= 9) && (decide (0 <= numR s.data.toList 20 (s.size - 21)) && decide (s.data.toList[s.size - 2]? ≠ some 48))))))) := by
   unfold Hid fracR
   rw [hsz]
  have HG19 := Lib.hid g19
  have HGY := Lib.hid gy
  obtain ⟨Y, hY⟩ : ∃ n, numR s.data.toList 0 4 = n := ⟨_, rfl⟩
  obtain ⟨M, hM⟩ : ∃ n, numR s.data.toList 5 2 = n := ⟨_, rfl⟩
  obtain ⟨D, hD⟩ : ∃ n, numR s.data.toList 8 2 = n := ⟨_, rfl⟩
  obtain ⟨H, hH⟩ : ∃ n, numR s.data.toList 11 2 = n := ⟨_, rfl⟩
  obtain ⟨I, hI⟩ : ∃ n, numR s.data.toList 14 2 = n := ⟨_, rfl⟩
  obtain ⟨C, hC⟩ : ∃ n, numR s.data.toList 17 2 = n := ⟨_, rfl⟩
  rw [hY] at HN0 HDA HDB HSR
  rw [hM] at HN5 HDA HDB HSR
  rw [hD] at HN8 HDA HDB HSR
  rw [hH] at HN11 HSR
  rw [hI] at HN14 HSR
  rw [hC] at HN17 HSR
  rw [HSP.out] at HSR
  obtain ⟨bad, hbad⟩ : ∃ b, (b4 || (b7 || (b10 || (b13 || (b16 || bz))))) = b := ⟨_, rfl⟩
  rw [hbad] at HSR
  have HBD := Lib.hid hbad
  clear hbad HSP hY hM hD hH hI hC g4 g7 g10 g13 g16 g19 gz gy
  have e4 := flip_ne _ _ _ hb4
  have e7 := flip_ne _ _ _ hb7
  have e10 := flip_ne _ _ _ hb10
  have e13 := flip_ne _ _ _ hb13
  have e16 := flip_ne _ _ _ hb16
  have ez := flip_ne _ _ _ hbz
  have x4 : 4 < s.size := by omega
  have x7 : 7 < s.size := by omega
  have x10 : 10 < s.size := by omega
  have x13 : 13 < s.size := by omega
  have x16 : 16 < s.size := by omega
  have xz : s.size - 1 < s.size := by omega
  have tz : ((s.size : Int) - 1).toNat = s.size - 1 := by omega
  have ty : ((s.size : Int) - 2).toNat = s.size - 2 := by omega
  go_enter Tryz.func45, Tryz.ntmps45
  go_upto_region 1 with fail
  go_cut [45] from 10 to 45 (fun v wq => v = .bool bad /\ wq = w)
  case first =>
   rcases sel6 b4 b7 b10 b13 b16 bz with (rfl | ⟨rfl, rfl⟩ | ⟨rfl, rfl, rfl⟩ | ⟨rfl, rfl, rfl, rfl⟩ | ⟨rfl, rfl, rfl, rfl, rfl⟩ | ⟨rfl, rfl, rfl, rfl, rfl, rfl⟩) | ⟨rfl, rfl, rfl, rfl, rfl, rfl⟩
   all_goals
    simp only [Bool.not_false, Bool.not_true] at e4
    try simp only [Bool.not_false, Bool.not_true] at e7
    try simp only [Bool.not_false, Bool.not_true] at e10
    try simp only [Bool.not_false, Bool.not_true] at e13
    try simp only [Bool.not_false, Bool.not_true] at e16
    try simp only [Bool.not_false, Bool.not_true] at ez
    go_wp2_with fail
    go_meet
    exact ⟨by rw [<- HBD.out]; rfl, rfl⟩
  case rest =>
  obtain ⟨rfl, hwc⟩ := hcut
  obtain rfl : w = wc := hwc.symm
  clear hb4 hb7 hb10 hb13 hb16 hbz e4 e7 e10 e13 e16 ez HBD hc4 hc7 hc10 hc13 hc16 hcz x4 x7 x10 x13 x16
  cases bad with
  | true =>
    have HRR : Hid (R = none) := HSR.out
    clear HSR
    go_wp2_with fail
    rw [HRR.out]
    refine bodyPost_ret (v := .tuple #[.int .i64 0, .bool false]) (by simp [results, Tryz.results45, go_sem]) rfl ⟨rfl, rfl⟩
  | false =>
    have HS2 : Hid (R = match daysF Y M D with
     | none => none
     | some d => if timeR H I C then (if fracR s.data.toList then some (d * 86400 + H * 3600 + I * 60 + C) else none) else none) := HSR.out
    clear HSR
    obtain ⟨o, ho⟩ : ∃ o, daysF Y M D = o := ⟨_, rfl⟩
    rw [ho] at HDA HDB HS2
    clear ho
    cases o with
    | none =>
      have HRR : Hid (R = none) := HS2.out
      clear HS2
      unfold dayRet at HDA
      dsimp only at HDA
      go_wp2_with (first | (go_at_call 84; (with_reducible refine (HN11.out _).mono ?_); rintro e w1 ⟨rfl, rfl⟩) | (go_at_call 84; (with_reducible refine (HN14.out _).mono ?_); rintro e w1 ⟨rfl, rfl⟩) | (go_at_call 84; (with_reducible refine (HN17.out _).mono ?_); rintro e w1 ⟨rfl, rfl⟩) | (go_at_call 84; (with_reducible refine (HN0.out _).mono ?_); rintro e w1 ⟨rfl, rfl⟩) | (go_at_call 84; (with_reducible refine (HN5.out _).mono ?_); rintro e w1 ⟨rfl, rfl⟩) | (go_at_call 84; (with_reducible refine (HN8.out _).mono ?_); rintro e w1 ⟨rfl, rfl⟩) | (go_at_call 85; (with_reducible refine (HDA.out _).mono ?_); rintro e w1 ⟨rfl, rfl⟩) | fail)
      rw [HRR.out]
      refine bodyPost_ret (v := .tuple #[.int .i64 0, .bool false]) (by simp [results, Tryz.results45, go_sem]) rfl ⟨rfl, rfl⟩
    | some d =>
      have hdb := HDB.out d rfl
      obtain ⟨d0, d1⟩ := hdb
      have HS3 : Hid (R = if timeR H I C then (if fracR s.data.toList then some (d * 86400 + H * 3600 + I * 60 + C) else none) else none) := HS2.out
      clear HS2 HDB
      unfold dayRet at HDA
      dsimp only at HDA
      obtain ⟨a1, ha1⟩ : ∃ b, decide (H < 0) = b := ⟨_, rfl⟩
      obtain ⟨a2, ha2⟩ : ∃ b, decide ((23 : Int) < H) = b := ⟨_, rfl⟩
      obtain ⟨a3, ha3⟩ : ∃ b, decide (I < 0) = b := ⟨_, rfl⟩
      obtain ⟨a4, ha4⟩ : ∃ b, decide ((59 : Int) < I) = b := ⟨_, rfl⟩
      obtain ⟨a5, ha5⟩ : ∃ b, decide (C < 0) = b := ⟨_, rfl⟩
      obtain ⟨a6, ha6⟩ : ∃ b, decide ((59 : Int) < C) = b := ⟨_, rfl⟩
      have HTM : Hid (timeR H I C = !(a1 || (a2 || (a3 || (a4 || (a5 || a6)))))) := by
       unfold Hid timeR
       rw [le_lt, le_lt, le_lt, le_lt, le_lt, le_lt, ha1, ha2, ha3, ha4, ha5, ha6]
       cases a1 <;> cases a2 <;> cases a3 <;> cases a4 <;> cases a5 <;> cases a6 <;> rfl
      rw [HTM.out] at HS3
      obtain ⟨bad, hbad⟩ : ∃ b, (a1 || (a2 || (a3 || (a4 || (a5 || a6))))) = b := ⟨_, rfl⟩
      rw [hbad] at HS3
      have HBD := Lib.hid hbad
      clear hbad HTM
      go_upto_region 7 with (first | (go_at_call 84; (with_reducible refine (HN11.out _).mono ?_); rintro e w1 ⟨rfl, rfl⟩) | (go_at_call 84; (with_reducible refine (HN14.out _).mono ?_); rintro e w1 ⟨rfl, rfl⟩) | (go_at_call 84; (with_reducible refine (HN17.out _).mono ?_); rintro e w1 ⟨rfl, rfl⟩) | (go_at_call 84; (with_reducible refine (HN0.out _).mono ?_); rintro e w1 ⟨rfl, rfl⟩) | (go_at_call 84; (with_reducible refine (HN5.out _).mono ?_); rintro e w1 ⟨rfl, rfl⟩) | (go_at_call 84; (with_reducible refine (HN8.out _).mono ?_); rintro e w1 ⟨rfl, rfl⟩) | (go_at_call 85; (with_reducible refine (HDA.out _).mono ?_); rintro e w1 ⟨rfl, rfl⟩) | fail)
      go_cut [87] from 62 to 87 (fun v wq => v = .bool bad /\ wq = w)
      case first =>
       rcases sel6 a1 a2 a3 a4 a5 a6 with (rfl | ⟨rfl, rfl⟩ | ⟨rfl, rfl, rfl⟩ | ⟨rfl, rfl, rfl, rfl⟩ | ⟨rfl, rfl, rfl, rfl, rfl⟩ | ⟨rfl, rfl, rfl, rfl, rfl, rfl⟩) | ⟨rfl, rfl, rfl, rfl, rfl, rfl⟩
       all_goals
        go_wp2_with fail
        go_meet
        exact ⟨by rw [<- HBD.out]; rfl, rfl⟩
      case rest =>
      obtain ⟨rfl, hwc⟩ := hcut
      obtain rfl : w = wc := hwc.symm
      cases bad with
      | true =>
        have HRR : Hid (R = none) := HS3.out
        clear HS3 HBD
        go_wp2_with fail
        rw [HRR.out]
        refine bodyPost_ret (v := .tuple #[.int .i64 0, .bool false]) (by simp [results, Tryz.results45, go_sem]) rfl ⟨rfl, rfl⟩
      | false =>
        have hall := HBD.out
        simp only [Bool.or_eq_false_iff] at hall
        obtain ⟨rfl, rfl, rfl, rfl, rfl, rfl⟩ := hall
        have j1 := of_decide_eq_false ha1
        have j2 := of_decide_eq_false ha2
        have j3 := of_decide_eq_false ha3
        have j4 := of_decide_eq_false ha4
        have j5 := of_decide_eq_false ha5
        have j6 := of_decide_eq_false ha6
        have HS4 : Hid (R = if fracR s.data.toList then some (d * 86400 + H * 3600 + I * 60 + C) else none) := HS3.out
        clear HS3 HBD ha1 ha2 ha3 ha4 ha5 ha6 HN11 HN14 HN17 HN0 HN5 HN8 HDA
        have l0 : (0 : Int) <= H := by omega
        have l1 : H <= 23 := by omega
        have l2 : (0 : Int) <= I := by omega
        have l3 : I <= 59 := by omega
        have l4 : (0 : Int) <= C := by omega
        have l5 : C <= 59 := by omega
        clear j1 j2 j3 j4 j5 j6
        by_cases h21 : s.size = 20
        ·have q1 : decide ((20 : Int) < (s.size : Int)) = false := decide_eq_false (by omega)
         have HRR : Hid (R = some (d * 86400 + H * 3600 + I * 60 + C)) := by unfold Hid; rw [HS4.out, HFR.out, decide_eq_true (by omega)]; rfl
         clear HS4 HFR
         go_wp2_with fail
         rw [HRR.out]
         refine bodyPost_ret (v := .tuple #[.int .i64 (d * 86400 + H * 3600 + I * 60 + C), .bool true]) (by simp [results, Tryz.results45, go_sem]) rfl ⟨rfl, rfl⟩
        ·have q1 : decide ((20 : Int) < (s.size : Int)) = true := decide_eq_true (by omega)
         obtain ⟨K, hK⟩ : ∃ K, s.size = 21 + K := ⟨s.size - 21, by omega⟩
         have hKe : (s.size : Int) - 21 = (K : Int) := by omega
         have HP := Lib.hid (HNP.out K hK)
         have k0 : (0 : Int) <= (K : Int) := Int.natCast_nonneg _
         have kk : (K : Int) <= 9223372036854775807 := by omega
         obtain ⟨P, hP⟩ : ∃ P, numR s.data.toList 20 K = P := ⟨_, rfl⟩
         rw [hP] at HP
         obtain ⟨f1, hf1⟩ : ∃ b, (((c19.toNat : Nat) : Int) != 46) = b := ⟨_, rfl⟩
         obtain ⟨f2, hf2⟩ : ∃ b, decide ((K : Int) < 1) = b := ⟨_, rfl⟩
         obtain ⟨f3, hf3⟩ : ∃ b, decide ((9 : Int) < (K : Int)) = b := ⟨_, rfl⟩
         obtain ⟨f4, hf4⟩ : ∃ b, decide (P < 0) = b := ⟨_, rfl⟩
         obtain ⟨f5, hf5⟩ : ∃ b, (((cy.toNat : Nat) : Int) == 48) = b := ⟨_, rfl⟩
         have HFF : Hid (fracR s.data.toList = !(f1 || (f2 || (f3 || (f4 || f5))))) := by
          unfold Hid
          have e5 : decide (s.data.toList[s.size - 2]? ≠ some 48) = !f5 := by
           rw [decide_not, sep_bit 48 rfl HGY.out, <- hf5]
           unfold bne
           simp
          have e2 : decide (1 <= s.size - 21) = !f2 := by
           rw [<- hf2, <- le_lt]
           exact decide_eq_decide.2 (by omega)
          have e3 : decide (s.size - 21 <= 9) = !f3 := by
           rw [<- hf3, <- le_lt]
           exact decide_eq_decide.2 (by omega)
          rw [HFR.out, decide_eq_false (p := s.size <= 20) (by omega), Bool.false_or, sep_bit 46 rfl HG19.out, hf1, e2, e3, e5, show s.size - 21 = K by omega, hP, le_lt, hf4]
          cases f1 <;> cases f2 <;> cases f3 <;> cases f4 <;> cases f5 <;> rfl
         rw [HFF.out] at HS4
         obtain ⟨bad, hbad⟩ : ∃ b, (f1 || (f2 || (f3 || (f4 || f5)))) = b := ⟨_, rfl⟩
         rw [hbad] at HS4
         have HBD := Lib.hid hbad
         clear hbad HFF HFR HNP HGY HG19 hP h21
         have ef := flip_ne _ _ _ hf1
         have x19 : 19 < s.size := by omega
         have xy : s.size - 2 < s.size := by omega
         have HKK := Lib.hid hK
         clear hK
         go_upto_region 11 with fail
         try rw [hKe]
         go_cut [118] from 94 to 118 (fun v wq => v = .bool bad /\ wq = w)
         case first =>
          rcases sel5 f1 f2 f3 f4 f5 with (rfl | ⟨rfl, rfl⟩ | ⟨rfl, rfl, rfl⟩) | (⟨rfl, rfl, rfl, rfl⟩ | ⟨rfl, rfl, rfl, rfl, rfl⟩ | ⟨rfl, rfl, rfl, rfl, rfl⟩)
          all_goals
           simp only [Bool.not_false, Bool.not_true] at ef
           try have HP2 := Lib.hid (HP.out (by have := of_decide_eq_false hf3; omega))
           go_wp2_with (first | (go_at_call 84; (with_reducible refine (HP2.out _).mono ?_); rintro e w1 ⟨rfl, rfl⟩) | fail)
           go_meet
           exact ⟨by rw [<- HBD.out]; rfl, rfl⟩
         case rest =>
         obtain ⟨rfl, hwc⟩ := hcut
         obtain rfl : w = wc := hwc.symm
         clear hf1 hf2 hf3 hf4 hf5 ef HP HBD
         cases bad with
         | true =>
           have HRR : Hid (R = none) := HS4.out
           clear HS4
           go_wp2_with fail
           rw [HRR.out]
           refine bodyPost_ret (v := .tuple #[.int .i64 0, .bool false]) (by simp [results, Tryz.results45, go_sem]) rfl ⟨rfl, rfl⟩
         | false =>
           have HRR : Hid (R = some (d * 86400 + H * 3600 + I * 60 + C)) := HS4.out
           clear HS4
           go_wp2_with fail
           rw [HRR.out]
           refine bodyPost_ret (v := .tuple #[.int .i64 (d * 86400 + H * 3600 + I * 60 + C), .bool true]) (by simp [results, Tryz.results45, go_sem]) rfl ⟨rfl, rfl⟩
theorem secRet_form (o : Option Int) : ∃ n : Int, secRet o = .tuple #[.int .i64 n, .bool o.isSome] := by
 cases o with
 | none => exact ⟨0, rfl⟩
 | some n => exact ⟨n, rfl⟩
theorem c30_iff {c n : Nat} (h3 : c <= n) (h4 : c <= 30 -> c = n) : 30 < c ↔ 30 < n := by
 by_cases hc : c <= 30
 ·have := h4 hc
  omega
 ·omega
theorem sortN_few (n : ByteArray) : sortN n = 0 \/ sortN n = 1 \/ sortN n = 2 \/ sortN n = 3 \/ sortN n = 4 := by
 unfold sortN
 repeat' split
 all_goals decide
theorem condE_sort (n : ByteArray) (x : JV) : condE n x = if sortN n = 0 then 200 else if (decide (x.k = 4) && (decide (x.s.size <= 255) && ((!decide (sortN n = 1) || decide (x.s.size <= 64)) && ((!decide (sortN n = 2) || idB x.s) && (!decide (sortN n = 3) || (secF x.s.data.toList).isSome))))) then 0 else 1 := by
 unfold condE
 rw [rightC_sort]
 cases h : (askB n || isFieldB n) with
 | true => rw [if_pos rfl, if_neg (sortN_pos h)]
 | false => rw [if_neg (by decide), if_pos (sortN_zero h)]
theorem rchk_any (N : Nat) : ∀ (t : JV) (r : RV) (w : World) (B : Nat), SizeOf.sizeOf t <= N -> B <= w.heap.size -> TreeOf w B t r -> t.Ok ->
 Calls Tryz.prog 51 #[r.val] w fun e w' => e = .returned (.int .i64 (chkF t)) /\ Below w.heap.size w w' := by
 induction N with
 | zero => intro t r w B hN; cases t; simp at hN
 | succ N ih =>
   intro t r w B hN hBw ht ot
   obtain ⟨W0, hW0⟩ : ∃ W0, w.alloc r.obj = W0 := ⟨_, rfl⟩
   have hA0 : VAt W0 w.heap.size r := by rw [<- hW0]; exact heap_alloc_at rfl
   have hB0 : Below w.heap.size w W0 := by rw [<- hW0]; exact (Below.refl _ _).alloc (Nat.le_refl _) _
   have hw0 := hB0.size
   have hBw0 : B <= W0.heap.size := Nat.le_trans hBw hw0
   have HTR : Hid (∀ W, Below W0.heap.size W0 W -> TreeOf W B t r) := fun W hW => (ht.under (hB0.mono hBw) (Nat.le_refl _)).under (hW.mono hBw0) (Nat.le_refl _)
   have HC : Hid (Calls Tryz.prog 61 #[r.val, .string svOper] W0 (GetRetB W0 B (t.get svOper))) := refGetB_any t r svOper W0 B hBw0 (HTR.out W0 (Below.refl _ _)) ot
   have HD : Hid (∀ W, Below W0.heap.size W0 W -> Calls Tryz.prog 61 #[r.val, .string svConds] W (GetRetB W B (t.get svConds))) := fun W hW => refGetB_any t r svConds W B (Nat.le_trans hBw0 hW.size) (HTR.out W hW) ot
   have HIH : Hid (∀ (i : Nat) x (q : RV) (W : World), (condsL t)[i]? = some x -> Below W0.heap.size W0 W -> TreeOf W B x q -> Calls Tryz.prog 51 #[q.val] W fun e w' => e = .returned (.int .i64 (chkF x)) /\ Below W.heap.size W w') := fun i x q W hx hW hq => ih x q W B (by have := condsL_lt (List.mem_of_getElem? hx); omega) (Nat.le_trans hBw0 hW.size) hq ((condsL_ok ot).2 i x hx)
   obtain ⟨rms, hm, hml, hmt⟩ := ht.ml
   have hmo := m_ok ot
   have hrl : rms.length = r.nm := (rd_nlen hm).symm
   have HCM : Hid (∀ (i : Nat) p (q : RM), t.m[i]? = some p -> rms[i]? = some q -> p.1 = q.name /\ p.2.k = q.v.k /\ p.2.s = q.v.s /\ q.v.s.size <= maxLen) := fun i p q hp hq => by
    obtain ⟨h1, h2⟩ := hmt i p q hp hq
    have h3 := h2.kk
    exact ⟨h1, h3.1.symm, h3.2.symm, by rw [h3.2]; exact Ok_s (hmo.2.2 i p hp)⟩
   have HRD : Hid (Rd W0 B encM 6 (.slice r.pm r.nm r.cm) rms) := hm.below (hB0.mono hBw) (Nat.le_refl _)
   have HCF := Lib.hid (chkF_eq t)
   have HKK := Lib.hid ht.kk.1
   have HCO := Lib.hid (condsL_ok ot).1
   have hml2 : t.m.length = r.nm := by omega
   have HOP : Hid (opOk t = (decide (r.nm = 2) && (decide (((t.get svOper).getD JV.zero).k = 4) && ((decide (((t.get svOper).getD JV.zero).s = svAnd) || (decide (((t.get svOper).getD JV.zero).s = svOr) || decide (((t.get svOper).getD JV.zero).s = svNot))) && decide (((t.get svConds).getD JV.zero).k = 5))))) := by
    unfold Hid opOk
    rw [hml2]
   have HCL : Hid (condsL t = ((t.get svConds).getD JV.zero).l) := rfl
   obtain ⟨E, hE⟩ : ∃ E, chkF t = E := ⟨_, rfl⟩
   obtain ⟨X, hX⟩ : ∃ X, t.get svOper = X := ⟨_, rfl⟩
   obtain ⟨Y, hY⟩ : ∃ X, t.get svConds = X := ⟨_, rfl⟩
   obtain ⟨OK, hOK⟩ : ∃ b, opOk t = b := ⟨_, rfl⟩
   obtain ⟨CL, hCL⟩ : ∃ b, condsL t = b := ⟨_, rfl⟩
   obtain ⟨M, hM⟩ : ∃ b, t.m = b := ⟨_, rfl⟩
   obtain ⟨TK, hTK⟩ : ∃ b, t.k = b := ⟨_, rfl⟩
   rw [hE, hX, hOK, hCL, hM, hTK] at HCF
   rw [hE]
   rw [hX] at HC HOP
   rw [hY] at HD HOP HCL
   rw [hOK] at HOP
   rw [hCL] at HIH HCO HCL
   rw [hM] at HCM hml hmo
   rw [hTK] at HKK
   unfold svOper at HC
   unfold svConds at HD
   have hno : r.nm <= 1466015503658 := by have := hmo.1; omega
   have HN : Hid (M.length = r.nm) := by unfold Hid; omega
   obtain ⟨k, n, s, pl, nl, cl, pm, nm, cm⟩ := r
   dsimp only [RV.val, RV.obj] at *
   have HB0 := Lib.hid hB0
   have HRL := Lib.hid hrl
   clear hB0 ht ot hE hX hY hOK hCL hM hTK hm hml hml2 hmt hmo ih hrl hN
   go_enter Tryz.func51, Tryz.ntmps51
   go_upto_region 1 with fail
   try rw [hW0]
   clear hW0
   obtain ⟨a0, a1, a2, a3, a4⟩ := hA0.cells5
   have hz0 := hA0.lt
   clear hA0
   by_cases hk6 : k = 6
   ·have HCF2 : Hid (E = if X.isSome = true then (if OK = true then chkFL CL else 1) else condsE M) := by
     unfold Hid
     rw [HCF.out, <- HKK.out, if_pos hk6]
    subst hk6
    clear HCF HKK
    go_upto_region 4 with (go_at_call 61; refine HC.out.mono ?_; rintro e w1 ⟨rv, bb, rfl, hbb, ht1, hb1⟩; (have HBB := Lib.hid hbb); clear hbb; obtain ⟨rk, rn, rS, rpl, rnl, rcl, rpm, rnm, rcm⟩ := rv)
    have hxx := ht1.kk
    dsimp only at hxx
    have hb2 : Below W0.heap.size W0 (w1.alloc (.cells #[.int .i64 rk, .int .i64 rn, .string rS, .slice rpl rnl rcl, .slice rpm rnm rcm] 25)) := hb1.alloc hb1.size _
    have hv2 : VAt (w1.alloc (.cells #[.int .i64 rk, .int .i64 rn, .string rS, .slice rpl rnl rcl, .slice rpm rnm rcm] 25)) w1.heap.size ⟨rk, rn, rS, rpl, rnl, rcl, rpm, rnm, rcm⟩ := heap_alloc_at rfl
    obtain ⟨g, hg⟩ : ∃ g, w1.heap.size = g := ⟨_, rfl⟩
    obtain ⟨W2, hW2⟩ : ∃ W, w1.alloc (.cells #[.int .i64 rk, .int .i64 rn, .string rS, .slice rpl rnl rcl, .slice rpm rnm rcm] 25) = W := ⟨_, rfl⟩
    rw [hW2] at hb2 hv2
    rw [hg] at hv2
    try rw [hW2]
    try rw [hg]
    have b0 := bcs hb2 hz0 a0
    have b1 := bcs hb2 hz0 a1
    have b2 := bcs hb2 hz0 a2
    have b3 := bcs hb2 hz0 a3
    have b4 := bcs hb2 hz0 a4
    have HB2 := Lib.hid hb2
    have HV2 := Lib.hid hv2
    have HXX := Lib.hid hxx
    have hz2 := Nat.lt_of_lt_of_le hz0 hb2.size
    have hzz := hb2.size
    have HDC := Lib.hid (HD.out W2 hb2)
    clear hW2 hg hb1 ht1 hb2 hv2 hxx a0 a1 a2 a3 a4 HC HD
    cases X with
    | none =>
      obtain rfl : bb = false := HBB.out
      have HE2 : Hid (E = condsE M) := HCF2.out
      clear HCF2 HOP HIH HDC HCL HXX HV2
      go_wp2_with fail
      go_loopw [9] (fun i wr => ∃ j : Nat, j <= nm /\ i = .int .i64 (j : Int) /\ Hid (condsE (M.drop j) = E /\ Below W2.heap.size W2 wr)) (fun i _ => nm - (intOf i).toNat)
      case atStart => exact ⟨0, by omega, rfl, HE2.out.symm, Below.refl _ _⟩
      case round =>
       obtain ⟨j, hj, rfl, hH⟩ := hrel
       have HJ := Lib.hid hH.out.1
       have HBR2 := Lib.hid hH.out.2
       have HBR : Hid (Below W0.heap.size W0 wr) := HB2.out.trans (HBR2.out.mono hzz)
       have c4 := bcs HBR2.out hz2 b4
       clear hH
       have hj0 : (0 : Int) <= (j : Int) := Int.natCast_nonneg _
       have hbz := HBR.out.size
       by_cases hlt : j < nm
       ·obtain ⟨y, hy⟩ : ∃ y, M[j]? = some y := ⟨_, List.getElem?_eq_getElem (by have := HN.out; omega)⟩
        obtain ⟨⟨xname, ⟨xk, xn, xs, xpl, xnl, xcl, xpm, xnm, xcm⟩⟩, hx⟩ : ∃ x, rms[j]? = some x := ⟨_, List.getElem?_eq_getElem (by have := HRL.out; omega)⟩
        have hj1 : (j : Int) < (nm : Int) := by omega
        obtain ⟨b1', o1, rfl, hb1, hc1⟩ := rd_at' (HRD.out.below (HBR.out.mono hBw0) (Nat.le_refl _)) hx
        have f0 := hc1 0 _ rfl
        have f1 := hc1 1 _ rfl
        have f2 := hc1 2 _ rfl
        have f3 := hc1 3 _ rfl
        have f4 := hc1 4 _ rfl
        have f5 := hc1 5 _ rfl
        rw [Nat.add_zero] at f0
        dsimp only at f0 f1 f2 f3 f4 f5
        have hba : Below W0.heap.size W0 (wr.alloc (.cells #[.int .i64 xk, .int .i64 xn, .string xs, .slice xpl xnl xcl, .slice xpm xnm xcm] 25)) := HBR.out.alloc hbz _
        have hba2 : Below W2.heap.size W2 (wr.alloc (.cells #[.int .i64 xk, .int .i64 xn, .string xs, .slice xpl xnl xcl, .slice xpm xnm xcm] 25)) := HBR2.out.alloc HBR2.out.size _
        have hvx : VAt (wr.alloc (.cells #[.int .i64 xk, .int .i64 xn, .string xs, .slice xpl xnl xcl, .slice xpm xnm xcm] 25)) wr.heap.size ⟨xk, xn, xs, xpl, xnl, xcl, xpm, xnm, xcm⟩ := heap_alloc_at rfl
        have HBA := Lib.hid hba
        have HBA2 := Lib.hid hba2
        have HVX := Lib.hid hvx
        obtain ⟨h1, h2, h3, h4⟩ := HCM.out j y _ hy hx
        dsimp only at h1 h2 h3 h4
        have HJ2 := Lib.hid ((condsE_drop hy).symm.trans HJ.out)
        have hce := condE_sort y.1 y.2
        rw [h1, h2, h3] at hce
        rw [h1] at HJ2
        obtain ⟨CE, hCE⟩ : ∃ c, condE xname y.2 = c := ⟨_, rfl⟩
        rw [hCE] at HJ2 hce
        have hsf := sortN_few xname
        have HSO : Hid (∀ W, Calls Tryz.prog 89 #[.string xname] W fun e w' => e = .returned (.int .i64 (sortN xname)) /\ W = w') := fun W => rsort_any xname W
        have HID : Hid (∀ W, Calls Tryz.prog 90 #[.string xs] W fun e w' => e = .returned (.bool (idB xs)) /\ w' = W) := fun W => refIs_any xs W h4
        obtain ⟨sn, hsn⟩ := secRet_form (secF xs.data.toList)
        have HSE : Hid (∀ W, Calls Tryz.prog 45 #[.string xs] W fun e w' => e = .returned (.tuple #[.int .i64 sn, .bool (secF xs.data.toList).isSome]) /\ W = w') := fun W => by
         have := rsec_any xs W h4
         rw [secR_eq, hsn] at this
         exact this
        obtain ⟨K, hK⟩ : ∃ K, sortN xname = K := ⟨_, rfl⟩
        obtain ⟨I, hI⟩ : ∃ A, idB xs = A := ⟨_, rfl⟩
        obtain ⟨TT, hT⟩ : ∃ A, (secF xs.data.toList).isSome = A := ⟨_, rfl⟩
        rw [hK] at hce hsf HSO
        rw [hI] at hce HID
        rw [hT] at hce HSE
        obtain ⟨k4, hk4⟩ : ∃ b, decide (xk = 4) = b := ⟨_, rfl⟩
        obtain ⟨c255, h255⟩ : ∃ b, decide (xs.size <= 255) = b := ⟨_, rfl⟩
        obtain ⟨c64, h64⟩ : ∃ b, decide (xs.size <= 64) = b := ⟨_, rfl⟩
        rw [hk4, h255, h64] at hce
        have q4 : (xk == 4) = k4 := by rw [<- hk4]; rfl
        have q4' : (xk != 4) = !k4 := by unfold bne; rw [q4]
        have qa : decide ((255 : Int) < (xs.size : Int)) = !c255 := by rw [<- h255]; by_cases h : xs.size <= 255 <;> simp [h] <;> omega
        have qb : decide ((64 : Int) < (xs.size : Int)) = !c64 := by rw [<- h64]; by_cases h : xs.size <= 64 <;> simp [h] <;> omega
        have qa' : decide (255 < xs.size) = !c255 := by rw [<- h255]; by_cases h : xs.size <= 255 <;> simp [h] <;> omega
        have qb' : decide (64 < xs.size) = !c64 := by rw [<- h64]; by_cases h : xs.size <= 64 <;> simp [h] <;> omega
        have hsz : (0 : Int) <= (xs.size : Int) := Int.natCast_nonneg _
        have HCE := Lib.hid hce
        clear hy hx hc1 hba hba2 hvx hCE h1 h2 h3 h4 hsn hK hI hT hk4 h255 h64 hce HJ
        have fin0 : Hid (CE = 0 -> condsE (M.drop (j + 1)) = E) := fun h => by
         have := HJ2.out
         rw [if_pos h] at this
         exact this
        have fin1 : Hid (CE ≠ 0 -> CE = E) := fun h => by
         have := HJ2.out
         rw [if_neg h] at this
         exact this
        clear HJ2
        go_upto_region 20 with (first
         | (go_at_call 89; (with_reducible refine (HSO.out _).mono ?_); rintro e w3 ⟨rfl, rfl⟩)
         | fail)
        obtain ⟨gx, hgx⟩ : ∃ g, wr.heap.size = g := ⟨_, rfl⟩
        obtain ⟨WX, hWX⟩ : ∃ W, wr.alloc (.cells #[.int .i64 xk, .int .i64 xn, .string xs, .slice xpl xnl xcl, .slice xpm xnm xcm] 25) = W := ⟨_, rfl⟩
        rw [hWX] at HBA HBA2 HVX
        rw [hgx] at HVX
        try rw [hWX]
        try rw [hgx]
        have x0 := HVX.out.cell 0 rfl
        have x2 := HVX.out.cell 2 rfl
        dsimp only at x0 x2
        clear hWX hgx f0 f1 f2 f3 f4 f5 c4
        rcases hsf with rfl | rfl | rfl | rfl | rfl
        ·have hc1 : CE = 200 := by rw [HCE.out, if_pos rfl]
         have HC1 := Lib.hid hc1
         clear hc1 q4 q4' qa qb qa' qb'
         go_wp2_with fail
         go_ret
         exact ⟨ret_int (by rw [<- fin1.out (by rw [HC1.out]; decide), HC1.out]), HB0.out.trans (HBA.out.mono hw0)⟩
        ·cases k4 <;> cases c255 <;> cases c64
         all_goals
          go_wp2_with (first
           | (go_at_call 45; (with_reducible refine (HSE.out _).mono ?_); rintro e w3 ⟨rfl, rfl⟩)
           | (go_at_call 90; (with_reducible refine (HID.out _).mono ?_); rintro e w4 ⟨rfl, rfl⟩)
           | fail)
          first
           | (go_roundw
              case rel => exact ⟨j + 1, by omega, by go_num, fin0.out (by rw [HCE.out]; first | rfl | (cases c64 <;> cases I <;> cases TT <;> rfl)), HBA2.out⟩
              case measure => simp [intOf]; omega)
           | (go_ret
              have hc1 : CE = 1 := by rw [HCE.out]; first | rfl | (cases c64 <;> cases I <;> cases TT <;> rfl)
              exact ⟨ret_int (by rw [<- fin1.out (by rw [hc1]; decide), hc1]), HB0.out.trans (HBA.out.mono hw0)⟩)
        ·cases k4 <;> cases c255 <;> cases I
         all_goals
          go_wp2_with (first
           | (go_at_call 45; (with_reducible refine (HSE.out _).mono ?_); rintro e w3 ⟨rfl, rfl⟩)
           | (go_at_call 90; (with_reducible refine (HID.out _).mono ?_); rintro e w4 ⟨rfl, rfl⟩)
           | fail)
          first
           | (go_roundw
              case rel => exact ⟨j + 1, by omega, by go_num, fin0.out (by rw [HCE.out]; first | rfl | (cases c64 <;> cases I <;> cases TT <;> rfl)), HBA2.out⟩
              case measure => simp [intOf]; omega)
           | (go_ret
              have hc1 : CE = 1 := by rw [HCE.out]; first | rfl | (cases c64 <;> cases I <;> cases TT <;> rfl)
              exact ⟨ret_int (by rw [<- fin1.out (by rw [hc1]; decide), hc1]), HB0.out.trans (HBA.out.mono hw0)⟩)
        ·cases k4 <;> cases c255 <;> cases TT
         all_goals
          go_wp2_with (first
           | (go_at_call 45; (with_reducible refine (HSE.out _).mono ?_); rintro e w3 ⟨rfl, rfl⟩)
           | (go_at_call 90; (with_reducible refine (HID.out _).mono ?_); rintro e w4 ⟨rfl, rfl⟩)
           | fail)
          first
           | (go_roundw
              case rel => exact ⟨j + 1, by omega, by go_num, fin0.out (by rw [HCE.out]; first | rfl | (cases c64 <;> cases I <;> cases TT <;> rfl)), HBA2.out⟩
              case measure => simp [intOf]; omega)
           | (go_ret
              have hc1 : CE = 1 := by rw [HCE.out]; first | rfl | (cases c64 <;> cases I <;> cases TT <;> rfl)
              exact ⟨ret_int (by rw [<- fin1.out (by rw [hc1]; decide), hc1]), HB0.out.trans (HBA.out.mono hw0)⟩)
        ·cases k4 <;> cases c255
         all_goals
          go_wp2_with (first
           | (go_at_call 45; (with_reducible refine (HSE.out _).mono ?_); rintro e w3 ⟨rfl, rfl⟩)
           | (go_at_call 90; (with_reducible refine (HID.out _).mono ?_); rintro e w4 ⟨rfl, rfl⟩)
           | fail)
          first
           | (go_roundw
              case rel => exact ⟨j + 1, by omega, by go_num, fin0.out (by rw [HCE.out]; first | rfl | (cases c64 <;> cases I <;> cases TT <;> rfl)), HBA2.out⟩
              case measure => simp [intOf]; omega)
           | (go_ret
              have hc1 : CE = 1 := by rw [HCE.out]; first | rfl | (cases c64 <;> cases I <;> cases TT <;> rfl)
              exact ⟨ret_int (by rw [<- fin1.out (by rw [hc1]; decide), hc1]), HB0.out.trans (HBA.out.mono hw0)⟩)
       ·obtain rfl : j = nm := by omega
        have HJ3 : Hid (E = 0) := by
         have := HJ.out
         rw [List.drop_eq_nil_of_le (by have := HN.out; omega)] at this
         exact this.symm
        clear HJ
        go_wp2_with fail
        go_ret
        exact ⟨ret_int HJ3.out.symm, HB0.out.trans (HBR.out.mono hw0)⟩
    | some o =>
      obtain rfl : bb = true := HBB.out
      have HCF3 : Hid (E = if OK = true then chkFL CL else 1) := HCF2.out
      clear HCF2 HCM HRD HRL
      go_upto_region 6 with (go_at_call 61; refine HDC.out.mono ?_; rintro e w3 ⟨rv, b3', rfl, hbb, ht1, hb1⟩; (have HBY := Lib.hid hbb); clear hbb; obtain ⟨qk, qn, qS, qpl, qnl, qcl, qpm, qnm, qcm⟩ := rv)
      have hyy := ht1.kk
      dsimp only at hyy
      have hb3 : Below W2.heap.size W2 (w3.alloc (.cells #[.int .i64 qk, .int .i64 qn, .string qS, .slice qpl qnl qcl, .slice qpm qnm qcm] 25)) := hb1.alloc hb1.size _
      have hv3 : VAt (w3.alloc (.cells #[.int .i64 qk, .int .i64 qn, .string qS, .slice qpl qnl qcl, .slice qpm qnm qcm] 25)) w3.heap.size ⟨qk, qn, qS, qpl, qnl, qcl, qpm, qnm, qcm⟩ := heap_alloc_at rfl
      have ht3 := (ht1.tl).under ((Below.refl B w3).alloc (Nat.le_trans (Nat.le_trans hBw0 HB2.out.size) hb1.size) (.cells #[.int .i64 qk, .int .i64 qn, .string qS, .slice qpl qnl qcl, .slice qpm qnm qcm] 25)) (Nat.le_refl _)
      have hv23 := HV2.out.under hb3 HV2.out.lt
      dsimp only at ht3
      obtain ⟨g3, hg3⟩ : ∃ g, w3.heap.size = g := ⟨_, rfl⟩
      obtain ⟨W3, hW3⟩ : ∃ W, w3.alloc (.cells #[.int .i64 qk, .int .i64 qn, .string qS, .slice qpl qnl qcl, .slice qpm qnm qcm] 25) = W := ⟨_, rfl⟩
      rw [hW3] at hb3 hv3 ht3 hv23
      rw [hg3] at hv3
      try rw [hW3]
      try rw [hg3]
      have c4 := bcs hb3 hz2 b4
      have x0 := hv23.cell 0 rfl
      have x2 := hv23.cell 2 rfl
      have y0 := hv3.cell 0 rfl
      have y3 := hv3.cell 3 rfl
      dsimp only at x0 x2 y0 y3
      have HB3 : Hid (Below W0.heap.size W0 W3) := HB2.out.trans (hb3.mono HB2.out.size)
      have HTL : Hid (TlOf W3 B (.slice qpl qnl qcl) CL) := by
       unfold Hid
       rw [HCL.out]
       exact ht3
      have HO2 : Hid (OK = (decide (nm = 2) && (decide (rk = 4) && ((decide (rS = svAnd) || (decide (rS = svOr) || decide (rS = svNot))) && decide (qk = 5))))) := by
       unfold Hid
       rw [HOP.out, HXX.out.1, HXX.out.2, hyy.1]
      have hz3 := hv3.lt
      clear hW3 hg3 hb1 ht1 hb3 hv3 ht3 hv23 hyy b0 b1 b2 b3 b4 HDC hz2 HOP HXX HV2 HCL
      have nm0 : (0 : Int) <= (nm : Int) := Int.natCast_nonneg _
      obtain ⟨e1, h1⟩ : ∃ b, (rS.toList == [65, 78, 68]) = b := ⟨_, rfl⟩
      obtain ⟨e2, h2⟩ : ∃ b, (rS.toList == [79, 82]) = b := ⟨_, rfl⟩
      obtain ⟨e3, h3⟩ : ∃ b, (rS.toList == [78, 79, 84]) = b := ⟨_, rfl⟩
      obtain ⟨b2, g2⟩ : ∃ b, decide (nm = 2) = b := ⟨_, rfl⟩
      obtain ⟨b4, g4⟩ : ∃ b, decide (rk = 4) = b := ⟨_, rfl⟩
      obtain ⟨b5, g5⟩ : ∃ b, decide (qk = 5) = b := ⟨_, rfl⟩
      have HO3 : Hid (OK = (b2 && (b4 && ((e1 || (e2 || e3)) && b5)))) := by
       unfold Hid
       rw [HO2.out, g2, g4, g5, <- h1, <- h2, <- h3, <- bytes_dec, <- bytes_dec, <- bytes_dec]
       rfl
      have q2 : ((nm : Int) == 2) = b2 := by rw [<- g2, Bool.eq_iff_iff]; simp; omega
      have q2' : (nm == 2) = b2 := by rw [<- g2]; rfl
      have q2n : ((nm : Int) != 2) = !b2 := by unfold bne; rw [q2]
      have q2n' : (nm != 2) = !b2 := by unfold bne; rw [q2']
      have q4 : (rk == 4) = b4 := by rw [<- g4]; rfl
      have q4n : (rk != 4) = !b4 := by unfold bne; rw [q4]
      have q5 : (qk == 5) = b5 := by rw [<- g5]; rfl
      have q5n : (qk != 5) = !b5 := by unfold bne; rw [q5]
      have n1 : (rS.toList != [65, 78, 68]) = !e1 := by unfold bne; rw [h1]
      have n2 : (rS.toList != [79, 82]) = !e2 := by unfold bne; rw [h2]
      have n3 : (rS.toList != [78, 79, 84]) = !e3 := by unfold bne; rw [h3]
      clear g2 g4 g5 HO2
      obtain ⟨NOK, hNOK⟩ : ∃ b, (!OK) = b := ⟨_, rfl⟩
      have HNO := Lib.hid hNOK
      clear hNOK
      go_cut [56] from 28 to 56 (fun v wx => v = .bool NOK /\ W3 = wx)
      case first =>
       cases b2 <;> cases b4 <;> cases b5 <;> cases e1 <;> cases e2 <;> cases e3
       all_goals
        go_wp2_with fail
        go_meet
        exact ⟨by rw [<- HNO.out, HO3.out]; rfl, rfl⟩
      case rest =>
      obtain ⟨rfl, rfl⟩ := hcut
      clear h1 h2 h3 q2 q2' q2n q2n' q4 q4n q5 q5n n1 n2 n3 HO3 x0 x2 y0 c4
      cases OK with
      | false =>
        obtain rfl : NOK = true := HNO.out.symm
        have HE2 : Hid (E = 1) := HCF3.out
        clear HCF3 HIH
        go_wp2_with fail
        go_ret
        exact ⟨ret_int HE2.out.symm, HB0.out.trans (HB3.out.mono hw0)⟩
      | true =>
        obtain rfl : NOK = false := HNO.out.symm
        have HE2 : Hid (E = chkFL CL) := HCF3.out
        clear HCF3
        obtain ⟨rs, hr, hlen, htt⟩ := HTL.out
        have hrl : rs.length = qnl := (rd_nlen hr).symm
        have HNL : Hid (CL.length = qnl) := by unfold Hid; omega
        have hn9 : qnl <= 1759218604390 := by have := HCO.out; have := HNL.out; omega
        have HRS := Lib.hid hr
        have HTT := Lib.hid htt
        have hBw3 : B <= W3.heap.size := Nat.le_trans hBw0 HB3.out.size
        have hzw := HB3.out.size
        clear hr hlen htt HTL
        go_wp2_with fail
        go_loopw [7] (fun i wr => ∃ j : Nat, j <= qnl /\ i = .int .i64 (j : Int) /\ Hid (chkFL (CL.drop j) = E /\ Below W3.heap.size W3 wr)) (fun i _ => qnl - (intOf i).toNat)
        case atStart => exact ⟨0, by omega, rfl, HE2.out.symm, Below.refl _ _⟩
        case round =>
         obtain ⟨j, hj, rfl, hH⟩ := hrel
         have HJ := Lib.hid hH.out.1
         have HBR := Lib.hid hH.out.2
         have y3r := bcs HBR.out hz3 y3
         clear hH
         have hj0 : (0 : Int) <= (j : Int) := Int.natCast_nonneg _
         have hbz := HBR.out.size
         by_cases hlt : j < qnl
         ·obtain ⟨y, hy⟩ : ∃ y, CL[j]? = some y := ⟨_, List.getElem?_eq_getElem (by have := HNL.out; omega)⟩
          obtain ⟨⟨xk, xn, xs, xpl, xnl, xcl, xpm, xnm, xcm⟩, hx⟩ : ∃ x, rs[j]? = some x := ⟨_, List.getElem?_eq_getElem (by omega)⟩
          have hj1 : (j : Int) < (qnl : Int) := by omega
          obtain ⟨b1', o1, rfl, hb1, hc1⟩ := rd_at' (HRS.out.below (HBR.out.mono hBw3) (Nat.le_refl _)) hx
          have f0 := hc1 0 _ rfl
          have f1 := hc1 1 _ rfl
          have f2 := hc1 2 _ rfl
          have f3 := hc1 3 _ rfl
          have f4 := hc1 4 _ rfl
          rw [Nat.add_zero] at f0
          dsimp only at f0 f1 f2 f3 f4
          have HCC := Lib.hid (HIH.out j y _ _ hy (HB3.out.trans (HBR.out.mono hzw)) ((HTT.out j y _ hy hx).under (HBR.out.mono hBw3) (Nat.le_refl _)))
          dsimp only [RV.val] at HCC
          have HJ2 := Lib.hid ((chkFL_drop hy).symm.trans HJ.out)
          obtain ⟨CE, hCE⟩ : ∃ c, chkF y = c := ⟨_, rfl⟩
          rw [hCE] at HCC HJ2
          clear hy hx hc1 hCE
          by_cases hce : CE = 0
          ·have HJ3 : Hid (chkFL (CL.drop (j + 1)) = E) := by
            have := HJ2.out
            rw [if_pos hce] at this
            exact this
           subst hce
           clear HJ2
           go_wp2_with (go_at_call 51; (with_reducible refine HCC.out.mono ?_); rintro e w4 ⟨rfl, hb4⟩)
           go_roundw
           case rel => exact ⟨j + 1, by omega, by go_num, HJ3.out, HBR.out.trans (hb4.mono hbz)⟩
           case measure => simp [intOf]; omega
          ·have HJ3 : Hid (CE = E) := by
            have := HJ2.out
            rw [if_neg hce] at this
            exact this
           have q1 : (CE != 0) = true := by simpa using hce
           have q2 : (CE == 0) = false := by simpa using hce
           clear HJ2 hce
           go_wp2_with (go_at_call 51; (with_reducible refine HCC.out.mono ?_); rintro e w4 ⟨rfl, hb4⟩)
           go_ret
           exact ⟨ret_int HJ3.out, HB0.out.trans ((HB3.out.trans ((HBR.out.trans (hb4.mono hbz)).mono hzw)).mono hw0)⟩
         ·obtain rfl : j = qnl := by omega
          have HJ3 : Hid (E = 0) := by
           have := HJ.out
           rw [List.drop_eq_nil_of_le (by have := HNL.out; omega)] at this
           have h0 : chkFL [] = 0 := by rw [chkFL]
           exact (h0.symm.trans this).symm
          clear HJ
          go_wp2_with fail
          go_ret
          exact ⟨ret_int HJ3.out.symm, HB0.out.trans ((HB3.out.trans (HBR.out.mono hzw)).mono hw0)⟩
   ·have HE2 : Hid (E = 1) := by
     unfold Hid
     rw [HCF.out, <- HKK.out, if_neg hk6]
    have q1 : (k != 6) = true := by simpa using hk6
    have q2 : (k == 6) = false := by simpa using hk6
    clear HCF HKK hk6 HIH HOP HCM HC HD
    go_wp2_with fail
    go_ret
    exact ⟨by rw [HE2.out]; rfl, HB0.out⟩
theorem rCheck_any (t : JV) (r : RV) (w : World) (B : Nat) (hBw : B <= w.heap.size) (ht : TreeOf w B t r) (ot : t.Ok) :
 Calls Tryz.prog 20 #[r.val] w fun e w' => e = .returned (.int .i64 (checkJ t)) /\ Below w.heap.size w w' := by
 obtain ⟨W0, hW0⟩ : ∃ W0, w.alloc r.obj = W0 := ⟨_, rfl⟩
 have hA0 : VAt W0 w.heap.size r := by rw [<- hW0]; exact heap_alloc_at rfl
 have hB0 : Below w.heap.size w W0 := by rw [<- hW0]; exact (Below.refl _ _).alloc (Nat.le_refl _) _
 have hw0 := hB0.size
 have hBw0 : B <= W0.heap.size := Nat.le_trans hBw hw0
 have hT0 : TreeOf W0 B t r := ht.under (hB0.mono hBw) (Nat.le_refl _)
 have HCN : Hid (Calls Tryz.prog 48 #[r.val, .int .i64 30] W0 fun e w' => ∃ c : Nat, e = .returned (.int .i64 (c : Int)) /\ Hid ((30 < c) ↔ 30 < countT t) /\ Below W0.heap.size W0 w') := (cnt7_any _ t r 30 W0 (Nat.le_refl _) (by decide) (hT0.mono hBw0) ot).mono fun e w' h => by
  obtain ⟨c, h1, ⟨h2, h3, h4⟩, h5⟩ := h
  exact ⟨c, h1, c30_iff h3 h4, h5⟩
 have HCK : Hid (∀ W, Below W0.heap.size W0 W -> Calls Tryz.prog 51 #[r.val] W fun e w' => e = .returned (.int .i64 (chkF t)) /\ Below W.heap.size W w') := fun W hW => rchk_any _ t r W B (Nat.le_refl _) (Nat.le_trans hBw0 hW.size) (hT0.under (hW.mono hBw0) (Nat.le_refl _)) ot
 have HCF : Hid (checkJ t = if r.k = 1 then 0 else if 30 < countT t then 200 else chkF t) := by
  unfold Hid checkJ
  rw [ht.kk.1]
 obtain ⟨E, hE⟩ : ∃ E, checkJ t = E := ⟨_, rfl⟩
 obtain ⟨C, hC⟩ : ∃ E, countT t = E := ⟨_, rfl⟩
 obtain ⟨F, hF⟩ : ∃ E, chkF t = E := ⟨_, rfl⟩
 rw [hE, hC, hF] at HCF
 rw [hE]
 rw [hC] at HCN
 rw [hF] at HCK
 obtain ⟨k, n, s, pl, nl, cl, pm, nm, cm⟩ := r
 dsimp only [RV.val, RV.obj] at *
 have HB0 := Lib.hid hB0
 clear hB0 ht ot hE hC hF hT0
 go_enter Tryz.func20, Tryz.ntmps20
 go_upto_region 1 with fail
 try rw [hW0]
 clear hW0
 obtain ⟨a0, a1, a2, a3, a4⟩ := hA0.cells5
 have hz0 := hA0.lt
 clear hA0
 by_cases hk1 : k = 1
 ·have HE2 : Hid (E = 0) := by unfold Hid; rw [HCF.out, if_pos hk1]
  subst hk1
  clear HCF HCN HCK
  go_wp2_with fail
  go_ret
  exact ⟨by rw [HE2.out]; rfl, HB0.out⟩
 have q1 : (k == 1) = false := by simpa using hk1
 go_upto_region 3 with fail
 go_wp2_with (first
  | (go_at_call 48; (with_reducible refine HCN.out.mono ?_); rintro e w1 ⟨c, rfl, HCC, hb1⟩; (have d0 := bcs hb1 hz0 a0); (have d1 := bcs hb1 hz0 a1); (have d2 := bcs hb1 hz0 a2); (have d3 := bcs hb1 hz0 a3); (have d4 := bcs hb1 hz0 a4); (have c0 : (0 : Int) <= (c : Int) := Int.natCast_nonneg _); (by_cases hcc : 30 < c); (have q2 : decide ((30 : Int) < (c : Int)) = true := decide_eq_true (by omega)); rotate_left; (have q2 : decide ((30 : Int) < (c : Int)) = false := decide_eq_false (by omega)))
  | (go_at_call 51; (with_reducible refine (HCK.out _ hb1).mono ?_); rintro e w2 ⟨rfl, hb2⟩)
  | fail)
 all_goals go_ret
 all_goals first
  | exact ⟨ret_int (show (200 : Int) = E by rw [HCF.out, if_neg hk1, if_pos (HCC.out.1 hcc)]), HB0.out.trans (hb1.mono hw0)⟩
  | exact ⟨ret_int (show F = E by rw [HCF.out, if_neg hk1, if_neg (fun h => hcc (HCC.out.2 h))]), HB0.out.trans ((hb1.trans (hb2.mono hb1.size)).mono hw0)⟩
theorem sieveChecks_any (t : JV) (r : RV) (w : World) (ht : TreeOf w w.heap.size t r) (ot : t.Ok) (hall : AllAt w) (hmax : MaxAt w) :
 Calls Tryz.prog 4 #[r.val] w fun e w' => e = .returned (.bool true) /\ Below w.heap.size w w' := by
 have hA0 : VAt (w.alloc (.cells #[.int .i64 r.k, .int .i64 r.n, .string r.s, .slice r.pl r.nl r.cl, .slice r.pm r.nm r.cm] 25)) w.heap.size r := heap_alloc_at rfl
 have hB0 : Below w.heap.size w (w.alloc (.cells #[.int .i64 r.k, .int .i64 r.n, .string r.s, .slice r.pl r.nl r.cl, .slice r.pm r.nm r.cm] 25)) := (Below.refl _ _).alloc (Nat.le_refl _) _
 have HAW : Hid (∀ W, Below w.heap.size w W -> Calls Tryz.prog 17 #[] W fun e w' => e = .returned (.bool true) /\ Below W.heap.size W w') := fun W hb => awake20_any W (hall.below hb) (hmax.below hb)
 have HF : Hid (∀ W, Below w.heap.size w W -> Calls Tryz.prog 18 #[r.val, .int .i64 1500] W (SomeC t r.nm 1500 W)) := fun W hb => few7c_any t r 1500 W (by decide) (ht.under hb hb.size) ot
 have HC : Hid (countT t <= 1500 -> ∀ W, Below w.heap.size w W -> Calls Tryz.prog 19 #[r.val] W fun e w' => e = .returned (.int .i64 (checkJ t)) /\ Below W.heap.size W w') := fun hc W hb => svCheck_any t r W w.heap.size hb.size (ht.under hb (Nat.le_refl _)) ot (by omega) (hall.below hb)
 have HD : Hid (∀ W, Below w.heap.size w W -> Calls Tryz.prog 20 #[r.val] W fun e w' => e = .returned (.int .i64 (checkJ t)) /\ Below W.heap.size W w') := fun W hb => rCheck_any t r W w.heap.size hb.size (ht.under hb (Nat.le_refl _)) ot
 obtain ⟨E, hE⟩ : ∃ E, checkJ t = E := ⟨_, rfl⟩
 rw [hE] at HC HD
 clear ht hE ot hall hmax
 go_enter Tryz.func4, Tryz.ntmps4
 go_upto_region 1 with fail
 obtain ⟨W0, hW0⟩ : ∃ W0, (w.alloc (.cells #[.int .i64 r.k, .int .i64 r.n, .string r.s, .slice r.pl r.nl r.cl, .slice r.pm r.nm r.cm] 25)) = W0 := ⟨_, rfl⟩
 rw [hW0] at hA0 hB0 ⊢
 clear hW0
 have hz := hA0.lt
 obtain ⟨c0, c1, c2, c3, c4⟩ := hA0.cells5
 clear hA0
 go_wp2_with (first
  | (go_at_call 17; (first
   | ((with_reducible refine (HAW.out _ hb2).mono ?_); rintro e w3 ⟨rfl, hbA3⟩; (have hb3 := hb2.trans (hbA3.mono hb2.size)))
   | ((with_reducible refine (HAW.out _ hB0).mono ?_); rintro e w1 ⟨rfl, hbA⟩; (have hb1 := hB0.trans (hbA.mono hB0.size)); (have d0 := bcs hbA hz c0); (have d1 := bcs hbA hz c1); (have d2 := bcs hbA hz c2); (have d3 := bcs hbA hz c3); (have d4 := bcs hbA hz c4))))
  | (go_at_call 18; refine (HF.out _ hb1).mono ?_; rintro e w2 ⟨b1, rfl, hL, hbB⟩; (have hb2 := hb1.trans (hbB.mono hb1.size)); (have hz1 := Nat.lt_of_lt_of_le hz hbA.size); (have e0 := bcs hbB hz1 d0); (have e1 := bcs hbB hz1 d1); (have e2 := bcs hbB hz1 d2); (have e3 := bcs hbB hz1 d3); (have e4 := bcs hbB hz1 d4); cases b1))
 ·go_ret
  exact ⟨rfl, hb3⟩
 have HC2 := Lib.hid (HC.out (hL.out (by trivial)).2.2)
 clear HC
 go_region_with (first
  | (go_at_call 19; refine (HC2.out _ hb2.drew).mono ?_; rintro e w3 ⟨rfl, hbC⟩; (have hb3 := hb2.drew.trans (hbC.mono hb2.drew.size)); (have hz2 := Nat.lt_of_lt_of_le hz1 hbB.size); (have f0 := bcs hbC hz2 e0); (have f1 := bcs hbC hz2 e1); (have f2 := bcs hbC hz2 e2); (have f3 := bcs hbC hz2 e3); (have f4 := bcs hbC hz2 e4))
  | (go_at_call 20; refine (HD.out _ hb3).mono ?_; rintro e w4 ⟨rfl, hbD⟩; (have hb4 := hb3.trans (hbD.mono hb3.size))))
 all_goals (go_wp2_with fail; go_ret; exact ⟨rfl, hb4⟩)
end
end Go.Proofs.YtffhccmppdgmfaaGreatDoor
