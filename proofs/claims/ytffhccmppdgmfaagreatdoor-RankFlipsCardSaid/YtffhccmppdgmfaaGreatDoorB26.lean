import Derived.Test.YtffhccmppdgmfaaGreatDoorB25
import Derived.Test.YtffhccmppdgmfaaGreatDoorB17
import Derived.Test.YtffhccmppdgmfaaGreatDoorB02
import Derived.Test.YtffhccmppdgmfaaGreatDoorB00
import Derived.Test.YtffhccmppdgmfaaGreatDoorB21
set_option linter.unusedSimpArgs false
set_option linter.unusedVariables false
set_option maxRecDepth 200000
set_option maxHeartbeats 8000000
namespace Go.Proofs.YtffhccmppdgmfaaGreatDoor
section
open Go Go.RowKit Go.OpenShut
theorem partF_in {l : List UInt8} {i : Nat} (h : 21 + i < l.length) : (partF l)[i]? = l[20 + i]? := by
 unfold partF
 rw [List.getElem?_append_left (by rw [List.length_take, List.length_drop]; omega), List.getElem?_take, if_pos (by omega), List.getElem?_drop]
theorem partF_out {l : List UInt8} {i : Nat} (h : ¬ 21 + i < l.length) (hi : i < 10) (hl : l.length <= 31) : (partF l)[i]? = some 48 := by
 unfold partF
 have hlen : ((l.drop 20).take (l.length - 21)).length = l.length - 21 := by rw [List.length_take, List.length_drop]; omega
 rw [List.getElem?_append_right (by omega), hlen, List.getElem?_replicate, if_pos (by omega)]
theorem part_step {l : List UInt8} {i : Nat} {c : UInt8} (h : (partF l)[i]? = some c) : valD ((partF l).take (i + 1)) = valD ((partF l).take i) * 10 + (((c.toNat : Nat) : Int) - 48) := by
 rw [List.take_add_one, h, Option.toList_some, valD_snoc]
 rfl
theorem rpart_any (s : ByteArray) (w : World) (ht : tlOk (s.data.toList.drop 19) = true) : Calls Tryz.prog 46 #[.string s] w fun e w' => e = .returned (.int .i64 (partN s.data.toList)) /\ w = w' := by
 have HGE : Hid (∀ k, (h : k < s.size) -> s.data.toList[k]? = some s[k]) := fun k h => get_optS h
 have hsz : s.data.toList.length = s.size := by rw [Array.length_toList]; rfl
 obtain ⟨l1, l0, _⟩ := tl_digs ht
 obtain ⟨hpd, hpl⟩ := partF_digs ht
 have HPI : Hid (∀ i, 21 + i < s.size -> (partF s.data.toList)[i]? = s.data.toList[20 + i]?) := fun i h => partF_in (by omega)
 have HPX : Hid (∀ i, ¬ 21 + i < s.size -> i < 10 -> (partF s.data.toList)[i]? = some 48) := fun i h h2 => partF_out (by omega) h2 (by omega)
 have HPS : Hid (∀ i c, (partF s.data.toList)[i]? = some c -> valD ((partF s.data.toList).take (i + 1)) = valD ((partF s.data.toList).take i) * 10 + (((c.toNat : Nat) : Int) - 48)) := fun i c h => part_step h
 have HBD : Hid (∀ i, i <= 9 -> 0 <= valD ((partF s.data.toList).take i) /\ valD ((partF s.data.toList).take i) < 1000000000) := fun i hi => by
  have hd : ((partF s.data.toList).take i).all digU = true := by
   rw [List.all_eq_true] at hpd ⊢
   exact fun x hx => hpd x (List.mem_of_mem_take hx)
  refine ⟨valD_nonneg hd, ?_⟩
  have h1 := valD_lt i _ (by rw [List.length_take]; omega) hd
  have h3 : (10 : Nat) ^ i <= 10 ^ 9 := Nat.pow_le_pow_right (by decide) hi
  have h4 : (((10 : Nat) ^ i : Nat) : Int) <= ((10 ^ 9 : Nat) : Int) := by omega
  have h5 : (10 : Int) ^ i <= 10 ^ 9 := by simpa using h4
  exact Int.lt_of_lt_of_le h1 (Int.le_trans h5 (by decide))
 have HN : Hid (partN s.data.toList = valD ((partF s.data.toList).take 9)) := rfl
 obtain ⟨R, hR⟩ : ∃ R, partN s.data.toList = R := ⟨_, rfl⟩
 rw [hR] at HN
 rw [hR]
 have hs20 : 20 <= s.size := by omega
 have hs30 : s.size <= 30 := by omega
 have s20 : (20 : Int) <= (s.size : Int) := by omega
 have s30 : (s.size : Int) <= 30 := by omega
 clear hsz hR hpd hpl ht l0 l1
 obtain ⟨x, hx⟩ : ∃ b, decide ((20 : Int) < (s.size : Int)) = b := ⟨_, rfl⟩
 go_enter Tryz.func46, Tryz.ntmps46
 go_wp2_with fail
 go_loopw [3, 4] (fun t i wr => ∃ k : Nat, k <= 9 /\ i = .int .i64 (k : Int) /\ t = .int .i64 (valD ((partF s.data.toList).take k)) /\ w = wr) (fun _ i _ => 9 - (intOf i).toNat)
 case atStart => exact ⟨0, by omega, rfl, rfl, rfl⟩
 case round =>
  obtain ⟨k, hk, rfl, rfl, rfl⟩ := hrel
  have hk0 : (0 : Int) <= (k : Int) := Int.natCast_nonneg _
  have hk9' : (k : Int) <= 9 := by omega
  obtain ⟨t0, t1⟩ := HBD.out k hk
  by_cases hlt : k < 9
  ·have hk9 : (k : Int) < 9 := by omega
   have hst : ∀ c, (partF s.data.toList)[k]? = some c -> valD ((partF s.data.toList).take (k + 1)) = valD ((partF s.data.toList).take k) * 10 + (((c.toNat : Nat) : Int) - 48) := fun c h => HPS.out k c h
   obtain ⟨T, hT⟩ : ∃ T, valD ((partF s.data.toList).take k) = T := ⟨_, rfl⟩
   rw [hT] at t0 t1 hst
   rw [hT]
   have HST := Lib.hid hst
   clear hT hst
   by_cases hin : 21 + k < s.size
   ·have q1 : decide ((20 : Int) < (s.size : Int)) = true := decide_eq_true (by omega)
    obtain rfl : x = true := hx.symm.trans q1
    have q2 : decide ((20 : Int) + (k : Int) < (s.size : Int) - 1) = true := decide_eq_true (by omega)
    have hks : 20 + k < s.size := by omega
    have hks' : (20 : Int) + (k : Int) < (s.size : Int) := by omega
    have hg := HGE.out (20 + k) hks
    have hgp := HPI.out k hin
    obtain ⟨c, hc⟩ : ∃ c, s[20 + k] = c := ⟨_, rfl⟩
    rw [hc] at hg
    rw [hg] at hgp
    have HE := Lib.hid (HST.out c hgp)
    have hcl := c.toNat_lt
    have c0 : (0 : Int) <= ((c.toNat : Nat) : Int) := Int.natCast_nonneg _
    have c256 : ((c.toNat : Nat) : Int) < 256 := by omega
    clear hg hgp
    have htn : ((20 : Int) + (k : Int)).toNat = 20 + k := by omega
    go_upto_region 7 with fail
    go_wp2_with fail
    go_roundw
    case rel => exact ⟨k + 1, by omega, by go_num, by rw [HE.out]; congr 1; omega, by trivial⟩
    case measure => simp [intOf]; omega
   ·have hgp := HPX.out k hin (by omega)
    have HE := Lib.hid (HST.out 48 hgp)
    clear hgp
    cases x with
    | true =>
      have q2 : decide ((20 : Int) + (k : Int) < (s.size : Int) - 1) = false := decide_eq_false (by omega)
      go_wp2_with fail
      go_roundw
      case rel => exact ⟨k + 1, by omega, by go_num, by rw [HE.out]; congr 1; show _ = T * 10 + ((48 : Int) - 48); omega, by trivial⟩
      case measure => simp [intOf]; omega
    | false =>
      go_wp2_with fail
      go_roundw
      case rel => exact ⟨k + 1, by omega, by go_num, by rw [HE.out]; congr 1; show _ = T * 10 + ((48 : Int) - 48); omega, by trivial⟩
      case measure => simp [intOf]; omega
  ·obtain rfl : k = 9 := by omega
   go_wp2_with fail
   rw [HN.out]
   go_ret
   exact ⟨rfl, rfl⟩
theorem sep_bit {l : List UInt8} {k : Nat} {c d : UInt8} (n : Int) (hn : ((d.toNat : Nat) : Int) = n) (h : l[k]? = some c) : decide (l[k]? = some d) = !(((c.toNat : Nat) : Int) != n) := by
 rw [h, <- hn]
 by_cases e : c = d
 ·rw [e, decide_eq_true rfl]; simp
 ·have h2 : ¬ c.toNat = d.toNat := fun e' => e (UInt8.toNat_inj.1 e')
  rw [decide_eq_false (fun e' => e (Option.some.inj e'))]
  have h3 : ¬ ((c.toNat : Nat) : Int) = ((d.toNat : Nat) : Int) := by omega
  simp [h3]
theorem numR_bound {l : List UInt8} {i n : Nat} : -1 <= numR l i n /\ numR l i n < 10 ^ n := by
 cases h : ((l.drop i).take n).all digU
 ·rw [numR_no h]
  refine ⟨by decide, ?_⟩
  have : (0 : Int) < 10 ^ n := Int.pow_pos (by decide)
  omega
 ·rw [numR_yes h]
  have := numAt_lt h
  omega
theorem le_lt (n k : Int) : decide (n <= k) = !decide (k < n) := by
 by_cases h : n <= k
 ·rw [decide_eq_true h, decide_eq_false (by omega)]; rfl
 ·rw [decide_eq_false h, decide_eq_true (by omega)]; rfl
theorem sel6 : ∀ a b c d e f : Bool, (a = true \/ (a = false /\ b = true) \/ (a = false /\ b = false /\ c = true) \/ (a = false /\ b = false /\ c = false /\ d = true) \/ (a = false /\ b = false /\ c = false /\ d = false /\ e = true) \/ (a = false /\ b = false /\ c = false /\ d = false /\ e = false /\ f = true)) \/ (a = false /\ b = false /\ c = false /\ d = false /\ e = false /\ f = false) := by
 intro a b c d e f
 cases a <;> cases b <;> cases c <;> cases d <;> cases e <;> cases f <;> simp
theorem sel5 : ∀ a b c d e : Bool, (a = true \/ (a = false /\ b = true) \/ (a = false /\ b = false /\ c = true)) \/ ((a = false /\ b = false /\ c = false /\ d = true) \/ (a = false /\ b = false /\ c = false /\ d = false /\ e = true) \/ (a = false /\ b = false /\ c = false /\ d = false /\ e = false)) := by
 intro a b c d e
 cases a <;> cases b <;> cases c <;> cases d <;> cases e <;> simp
theorem flip_ne (x y : Int) (b : Bool) (h : (x != y) = b) : (x == y) = !b := by
 rw [<- h]; unfold bne; simp
theorem rsec_any (s : ByteArray) (w : World) (hs : s.size <= maxLen) : Calls Tryz.prog 45 #[.string s] w fun e w' => e = .returned (secRet (secR s.data.toList)) /\ w = w' := by
 have HGE : Hid (∀ k, (h : k < s.size) -> s.data.toList[k]? = some s[k]) := fun k h => get_optS h
 have hsz : s.data.toList.length = s.size := by rw [Array.length_toList]; rfl
 have HSR : Hid (secR s.data.toList = if sepR s.data.toList then (match daysF (numR s.data.toList 0 4) (numR s.data.toList 5 2) (numR s.data.toList 8 2) with
  | none => none
  | some d => if timeR (numR s.data.toList 11 2) (numR s.data.toList 14 2) (numR s.data.toList 17 2) then (if fracR s.data.toList then some (d * 86400 + numR s.data.toList 11 2 * 3600 + numR s.data.toList 14 2 * 60 + numR s.data.toList 17 2) else none) else none) else none) := rfl
 have hs2 := hs
 unfold maxLen at hs
 have s0 : (0 : Int) <= (s.size : Int) := Int.natCast_nonneg _
 obtain ⟨R, hR⟩ : ∃ R, secR s.data.toList = R := ⟨_, rfl⟩
 rw [hR] at HSR
 rw [hR]
 clear hR
 by_cases h20 : s.size < 20
 ·have q0 : decide ((s.size : Int) < 20) = true := decide_eq_true (by omega)
  have HRR : Hid (R = none) := by unfold Hid; rw [HSR.out]; unfold sepR; rw [hsz, decide_eq_false (by omega)]; rfl
  clear HSR hsz HGE hs2
  go_enter Tryz.func45, Tryz.ntmps45
  go_wp2_with fail
  rw [HRR.out]
  refine bodyPost_ret (v := .tuple #[.int .i64 0, .bool false]) (by simp [results, Tryz.results45, go_sem]) rfl ⟨rfl, rfl⟩
 ·have q0 : decide ((s.size : Int) < 20) = false := decide_eq_false (by omega)
  have hs20 : 20 <= s.size := by omega
  have s20 : (20 : Int) <= (s.size : Int) := by omega
  have HN11 : Hid (∀ W, Calls Tryz.prog 84 #[.string s, .int .i64 11, .int .i64 2] W fun e w' => e = .returned (.int .i64 (numR s.data.toList 11 2)) /\ W = w') := fun W => rnumber_any s 11 2 W hs2 (by omega) (by omega)
  have HN14 : Hid (∀ W, Calls Tryz.prog 84 #[.string s, .int .i64 14, .int .i64 2] W fun e w' => e = .returned (.int .i64 (numR s.data.toList 14 2)) /\ W = w') := fun W => rnumber_any s 14 2 W hs2 (by omega) (by omega)
  have HN17 : Hid (∀ W, Calls Tryz.prog 84 #[.string s, .int .i64 17, .int .i64 2] W fun e w' => e = .returned (.int .i64 (numR s.data.toList 17 2)) /\ W = w') := fun W => rnumber_any s 17 2 W hs2 (by omega) (by omega)
  have HN0 : Hid (∀ W, Calls Tryz.prog 84 #[.string s, .int .i64 0, .int .i64 4] W fun e w' => e = .returned (.int .i64 (numR s.data.toList 0 4)) /\ W = w') := fun W => rnumber_any s 0 4 W hs2 (by omega) (by omega)
  have HN5 : Hid (∀ W, Calls Tryz.prog 84 #[.string s, .int .i64 5, .int .i64 2] W fun e w' => e = .returned (.int .i64 (numR s.data.toList 5 2)) /\ W = w') := fun W => rnumber_any s 5 2 W hs2 (by omega) (by omega)
  have HN8 : Hid (∀ W, Calls Tryz.prog 84 #[.string s, .int .i64 8, .int .i64 2] W fun e w' => e = .returned (.int .i64 (numR s.data.toList 8 2)) /\ W = w') := fun W => rnumber_any s 8 2 W hs2 (by omega) (by omega)
  have HNP : Hid (∀ K : Nat, s.size = 21 + K -> K <= 9 -> ∀ W, Calls Tryz.prog 84 #[.string s, .int .i64 20, .int .i64 (K : Int)] W fun e w' => e = .returned (.int .i64 (numR s.data.toList 20 K)) /\ W = w') := fun K e h W => rnumber_any s 20 K W hs2 (by omega) h
  have HDA : Hid (∀ W, Calls Tryz.prog 85 #[.int .i64 (numR s.data.toList 0 4), .int .i64 (numR s.data.toList 5 2), .int .i64 (numR s.data.toList 8 2)] W fun e w' => e = .returned (dayRet (daysF (numR s.data.toList 0 4) (numR s.data.toList 5 2) (numR s.data.toList 8 2))) /\ W = w') := fun W => by
   have a := numR_bound (l := s.data.toList) (i := 0) (n := 4)
   have b := numR_bound (l := s.data.toList) (i := 5) (n := 2)
   have c := numR_bound (l := s.data.toList) (i := 8) (n := 2)
   have p4 : (10 : Int) ^ 4 = 10000 := by decide
   have p2 : (10 : Int) ^ 2 = 100 := by decide
   exact rdays_any _ _ _ W (by omega) (by omega) (by omega) (by omega) (by omega) (by omega)
  have HDB : Hid (∀ D, daysF (numR s.data.toList 0 4) (numR s.data.toList 5 2) (numR s.data.toList 8 2) = some D -> -800000 <= D /\ D <= 4000000) := fun D h => daysF_bound h
  have g4 := HGE.out 4 (by omega)
  have g7 := HGE.out 7 (by omega)
  have g10 := HGE.out 10 (by omega)
  have g13 := HGE.out 13 (by omega)
  have g16 := HGE.out 16 (by omega)
  have g19 := HGE.out 19 (by omega)
  have gz := HGE.out (s.size - 1) (by omega)
  have gy := HGE.out (s.size - 2) (by omega)
  obtain ⟨c4, hc4⟩ : ∃ c, s[4] = c := ⟨_, rfl⟩
  obtain ⟨c7, hc7⟩ : ∃ c, s[7] = c := ⟨_, rfl⟩
  obtain ⟨c10, hc10⟩ : ∃ c, s[10] = c := ⟨_, rfl⟩
  obtain ⟨c13, hc13⟩ : ∃ c, s[13] = c := ⟨_, rfl⟩
  obtain ⟨c16, hc16⟩ : ∃ c, s[16] = c := ⟨_, rfl⟩
  obtain ⟨c19, hc19⟩ : ∃ c, s[19] = c := ⟨_, rfl⟩
  obtain ⟨cz, hcz⟩ : ∃ c, s[s.size - 1] = c := ⟨_, rfl⟩
  obtain ⟨cy, hcy⟩ : ∃ c, s[s.size - 2] = c := ⟨_, rfl⟩
  rw [hc4] at g4
  rw [hc7] at g7
  rw [hc10] at g10
  rw [hc13] at g13
  rw [hc16] at g16
  rw [hc19] at g19
  rw [hcz] at gz
  rw [hcy] at gy
  obtain ⟨b4, hb4⟩ : ∃ b, (((c4.toNat : Nat) : Int) != 45) = b := ⟨_, rfl⟩
  obtain ⟨b7, hb7⟩ : ∃ b, (((c7.toNat : Nat) : Int) != 45) = b := ⟨_, rfl⟩
  obtain ⟨b10, hb10⟩ : ∃ b, (((c10.toNat : Nat) : Int) != 84) = b := ⟨_, rfl⟩
  obtain ⟨b13, hb13⟩ : ∃ b, (((c13.toNat : Nat) : Int) != 58) = b := ⟨_, rfl⟩
  obtain ⟨b16, hb16⟩ : ∃ b, (((c16.toNat : Nat) : Int) != 58) = b := ⟨_, rfl⟩
  obtain ⟨bz, hbz⟩ : ∃ b, (((cz.toNat : Nat) : Int) != 90) = b := ⟨_, rfl⟩
  have HSP : Hid (sepR s.data.toList = !(b4 || (b7 || (b10 || (b13 || (b16 || bz)))))) := by
   unfold Hid sepR
   rw [hsz, decide_eq_true hs20, sep_bit 45 rfl g4, sep_bit 45 rfl g7, sep_bit 84 rfl g10, sep_bit 58 rfl g13, sep_bit 58 rfl g16, sep_bit 90 rfl gz, hb4, hb7, hb10, hb13, hb16, hbz]
   cases b4 <;> cases b7 <;> cases b10 <;> cases b13 <;> cases b16 <;> cases bz <;> rfl
  have HFR : Hid (fracR s.data.toList = (decide (s.size <= 20) || (decide (s.data.toList[19]? = some 46) && (decide (1 <= s.size - 21) && (decide (s.size - 21 <= 9) && (decide (0 <= numR s.data.toList 20 (s.size - 21)) && decide (s.data.toList[s.size - 2]? ≠ some 48))))))) := by
   unfold Hid fracR
   rw [hsz]
  have HG19 := Lib.hid g19
  have HGY := Lib.hid gy
  obtain ⟨Y, hY⟩ : ∃ n, numR s.data.toList 0 4 = n := ⟨_, rfl⟩
  obtain ⟨M, hM⟩ : ∃ n, numR s.data.toList 5 2 = n := ⟨_, rfl⟩
  obtain ⟨D, hD⟩ : ∃ n, numR s.data.toList 8 2 = n := ⟨_, rfl⟩
  obtain ⟨H, hH⟩ : ∃ n, numR s.data.toList 11 2 = n := ⟨_, rfl⟩
  obtain ⟨I, hI⟩ : ∃ n, numR s.data.toList 14 2 = n := ⟨_, rfl⟩
  obtain ⟨C, hC⟩ : ∃ n, numR s.data.toList 17 2 = n := ⟨_, rfl⟩
  rw [hY] at HN0 HDA HDB HSR
  rw [hM] at HN5 HDA HDB HSR
  rw [hD] at HN8 HDA HDB HSR
  rw [hH] at HN11 HSR
  rw [hI] at HN14 HSR
  rw [hC] at HN17 HSR
  rw [HSP.out] at HSR
  obtain ⟨bad, hbad⟩ : ∃ b, (b4 || (b7 || (b10 || (b13 || (b16 || bz))))) = b := ⟨_, rfl⟩
  rw [hbad] at HSR
  have HBD := Lib.hid hbad
  clear hbad HSP hY hM hD hH hI hC g4 g7 g10 g13 g16 g19 gz gy
  have e4 := flip_ne _ _ _ hb4
  have e7 := flip_ne _ _ _ hb7
  have e10 := flip_ne _ _ _ hb10
  have e13 := flip_ne _ _ _ hb13
  have e16 := flip_ne _ _ _ hb16
  have ez := flip_ne _ _ _ hbz
  have x4 : 4 < s.size := by omega
  have x7 : 7 < s.size := by omega
  have x10 : 10 < s.size := by omega
  have x13 : 13 < s.size := by omega
  have x16 : 16 < s.size := by omega
  have xz : s.size - 1 < s.size := by omega
  have tz : ((s.size : Int) - 1).toNat = s.size - 1 := by omega
  have ty : ((s.size : Int) - 2).toNat = s.size - 2 := by omega
  go_enter Tryz.func45, Tryz.ntmps45
  go_upto_region 1 with fail
  go_cut [45] from 10 to 45 (fun v wq => v = .bool bad /\ wq = w)
  case first =>
   rcases sel6 b4 b7 b10 b13 b16 bz with (rfl | ⟨rfl, rfl⟩ | ⟨rfl, rfl, rfl⟩ | ⟨rfl, rfl, rfl, rfl⟩ | ⟨rfl, rfl, rfl, rfl, rfl⟩ | ⟨rfl, rfl, rfl, rfl, rfl, rfl⟩) | ⟨rfl, rfl, rfl, rfl, rfl, rfl⟩
   all_goals
    simp only [Bool.not_false, Bool.not_true] at e4
    try simp only [Bool.not_false, Bool.not_true] at e7
    try simp only [Bool.not_false, Bool.not_true] at e10
    try simp only [Bool.not_false, Bool.not_true] at e13
    try simp only [Bool.not_false, Bool.not_true] at e16
    try simp only [Bool.not_false, Bool.not_true] at ez
    go_wp2_with fail
    go_meet
    exact ⟨by rw [<- HBD.out]; rfl, rfl⟩
  case rest =>
  obtain ⟨rfl, hwc⟩ := hcut
  obtain rfl : w = wc := hwc.symm
  clear hb4 hb7 hb10 hb13 hb16 hbz e4 e7 e10 e13 e16 ez HBD hc4 hc7 hc10 hc13 hc16 hcz x4 x7 x10 x13 x16
  cases bad with
  | true =>
    have HRR : Hid (R = none) := HSR.out
    clear HSR
    go_wp2_with fail
    rw [HRR.out]
    refine bodyPost_ret (v := .tuple #[.int .i64 0, .bool false]) (by simp [results, Tryz.results45, go_sem]) rfl ⟨rfl, rfl⟩
  | false =>
    have HS2 : Hid (R = match daysF Y M D with
     | none => none
     | some d => if timeR H I C then (if fracR s.data.toList then some (d * 86400 + H * 3600 + I * 60 + C) else none) else none) := HSR.out
    clear HSR
    obtain ⟨o, ho⟩ : ∃ o, daysF Y M D = o := ⟨_, rfl⟩
    rw [ho] at HDA HDB HS2
    clear ho
    cases o with
    | none =>
      have HRR : Hid (R = none) := HS2.out
      clear HS2
      unfold dayRet at HDA
      dsimp only at HDA
      go_wp2_with (first | (go_at_call 84; (with_reducible refine (HN11.out _).mono ?_); rintro e w1 ⟨rfl, rfl⟩) | (go_at_call 84; (with_reducible refine (HN14.out _).mono ?_); rintro e w1 ⟨rfl, rfl⟩) | (go_at_call 84; (with_reducible refine (HN17.out _).mono ?_); rintro e w1 ⟨rfl, rfl⟩) | (go_at_call 84; (with_reducible refine (HN0.out _).mono ?_); rintro e w1 ⟨rfl, rfl⟩) | (go_at_call 84; (with_reducible refine (HN5.out _).mono ?_); rintro e w1 ⟨rfl, rfl⟩) | (go_at_call 84; (with_reducible refine (HN8.out _).mono ?_); rintro e w1 ⟨rfl, rfl⟩) | (go_at_call 85; (with_reducible refine (HDA.out _).mono ?_); rintro e w1 ⟨rfl, rfl⟩) | fail)
      rw [HRR.out]
      refine bodyPost_ret (v := .tuple #[.int .i64 0, .bool false]) (by simp [results, Tryz.results45, go_sem]) rfl ⟨rfl, rfl⟩
    | some d =>
      have hdb := HDB.out d rfl
      obtain ⟨d0, d1⟩ := hdb
      have HS3 : Hid (R = if timeR H I C then (if fracR s.data.toList then some (d * 86400 + H * 3600 + I * 60 + C) else none) else none) := HS2.out
      clear HS2 HDB
      unfold dayRet at HDA
      dsimp only at HDA
      obtain ⟨a1, ha1⟩ : ∃ b, decide (H < 0) = b := ⟨_, rfl⟩
      obtain ⟨a2, ha2⟩ : ∃ b, decide ((23 : Int) < H) = b := ⟨_, rfl⟩
      obtain ⟨a3, ha3⟩ : ∃ b, decide (I < 0) = b := ⟨_, rfl⟩
      obtain ⟨a4, ha4⟩ : ∃ b, decide ((59 : Int) < I) = b := ⟨_, rfl⟩
      obtain ⟨a5, ha5⟩ : ∃ b, decide (C < 0) = b := ⟨_, rfl⟩
      obtain ⟨a6, ha6⟩ : ∃ b, decide ((59 : Int) < C) = b := ⟨_, rfl⟩
      have HTM : Hid (timeR H I C = !(a1 || (a2 || (a3 || (a4 || (a5 || a6)))))) := by
       unfold Hid timeR
       rw [le_lt, le_lt, le_lt, le_lt, le_lt, le_lt, ha1, ha2, ha3, ha4, ha5, ha6]
       cases a1 <;> cases a2 <;> cases a3 <;> cases a4 <;> cases a5 <;> cases a6 <;> rfl
      rw [HTM.out] at HS3
      obtain ⟨bad, hbad⟩ : ∃ b, (a1 || (a2 || (a3 || (a4 || (a5 || a6))))) = b := ⟨_, rfl⟩
      rw [hbad] at HS3
      have HBD := Lib.hid hbad
      clear hbad HTM
      go_upto_region 7 with (first | (go_at_call 84; (with_reducible refine (HN11.out _).mono ?_); rintro e w1 ⟨rfl, rfl⟩) | (go_at_call 84; (with_reducible refine (HN14.out _).mono ?_); rintro e w1 ⟨rfl, rfl⟩) | (go_at_call 84; (with_reducible refine (HN17.out _).mono ?_); rintro e w1 ⟨rfl, rfl⟩) | (go_at_call 84; (with_reducible refine (HN0.out _).mono ?_); rintro e w1 ⟨rfl, rfl⟩) | (go_at_call 84; (with_reducible refine (HN5.out _).mono ?_); rintro e w1 ⟨rfl, rfl⟩) | (go_at_call 84; (with_reducible refine (HN8.out _).mono ?_); rintro e w1 ⟨rfl, rfl⟩) | (go_at_call 85; (with_reducible refine (HDA.out _).mono ?_); rintro e w1 ⟨rfl, rfl⟩) | fail)
      go_cut [87] from 62 to 87 (fun v wq => v = .bool bad /\ wq = w)
      case first =>
       rcases sel6 a1 a2 a3 a4 a5 a6 with (rfl | ⟨rfl, rfl⟩ | ⟨rfl, rfl, rfl⟩ | ⟨rfl, rfl, rfl, rfl⟩ | ⟨rfl, rfl, rfl, rfl, rfl⟩ | ⟨rfl, rfl, rfl, rfl, rfl, rfl⟩) | ⟨rfl, rfl, rfl, rfl, rfl, rfl⟩
       all_goals
        go_wp2_with fail
        go_meet
        exact ⟨by rw [<- HBD.out]; rfl, rfl⟩
      case rest =>
      obtain ⟨rfl, hwc⟩ := hcut
      obtain rfl : w = wc := hwc.symm
      cases bad with
      | true =>
        have HRR : Hid (R = none) := HS3.out
        clear HS3 HBD
        go_wp2_with fail
        rw [HRR.out]
        refine bodyPost_ret (v := .tuple #[.int .i64 0, .bool false]) (by simp [results, Tryz.results45, go_sem]) rfl ⟨rfl, rfl⟩
      | false =>
        have hall := HBD.out
        simp only [Bool.or_eq_false_iff] at hall
        obtain ⟨rfl, rfl, rfl, rfl, rfl, rfl⟩ := hall
        have j1 := of_decide_eq_false ha1
        have j2 := of_decide_eq_false ha2
        have j3 := of_decide_eq_false ha3
        have j4 := of_decide_eq_false ha4
        have j5 := of_decide_eq_false ha5
        have j6 := of_decide_eq_false ha6
        have HS4 : Hid (R = if fracR s.data.toList then some (d * 86400 + H * 3600 + I * 60 + C) else none) := HS3.out
        clear HS3 HBD ha1 ha2 ha3 ha4 ha5 ha6 HN11 HN14 HN17 HN0 HN5 HN8 HDA
        have l0 : (0 : Int) <= H := by omega
        have l1 : H <= 23 := by omega
        have l2 : (0 : Int) <= I := by omega
        have l3 : I <= 59 := by omega
        have l4 : (0 : Int) <= C := by omega
        have l5 : C <= 59 := by omega
        clear j1 j2 j3 j4 j5 j6
        by_cases h21 : s.size = 20
        ·have q1 : decide ((20 : Int) < (s.size : Int)) = false := decide_eq_false (by omega)
         have HRR : Hid (R = some (d * 86400 + H * 3600 + I * 60 + C)) := by unfold Hid; rw [HS4.out, HFR.out, decide_eq_true (by omega)]; rfl
         clear HS4 HFR
         go_wp2_with fail
         rw [HRR.out]
         refine bodyPost_ret (v := .tuple #[.int .i64 (d * 86400 + H * 3600 + I * 60 + C), .bool true]) (by simp [results, Tryz.results45, go_sem]) rfl ⟨rfl, rfl⟩
        ·have q1 : decide ((20 : Int) < (s.size : Int)) = true := decide_eq_true (by omega)
         obtain ⟨K, hK⟩ : ∃ K, s.size = 21 + K := ⟨s.size - 21, by omega⟩
         have hKe : (s.size : Int) - 21 = (K : Int) := by omega
         have HP := Lib.hid (HNP.out K hK)
         have k0 : (0 : Int) <= (K : Int) := Int.natCast_nonneg _
         have kk : (K : Int) <= 9223372036854775807 := by omega
         obtain ⟨P, hP⟩ : ∃ P, numR s.data.toList 20 K = P := ⟨_, rfl⟩
         rw [hP] at HP
         obtain ⟨f1, hf1⟩ : ∃ b, (((c19.toNat : Nat) : Int) != 46) = b := ⟨_, rfl⟩
         obtain ⟨f2, hf2⟩ : ∃ b, decide ((K : Int) < 1) = b := ⟨_, rfl⟩
         obtain ⟨f3, hf3⟩ : ∃ b, decide ((9 : Int) < (K : Int)) = b := ⟨_, rfl⟩
         obtain ⟨f4, hf4⟩ : ∃ b, decide (P < 0) = b := ⟨_, rfl⟩
         obtain ⟨f5, hf5⟩ : ∃ b, (((cy.toNat : Nat) : Int) == 48) = b := ⟨_, rfl⟩
         have HFF : Hid (fracR s.data.toList = !(f1 || (f2 || (f3 || (f4 || f5))))) := by
          unfold Hid
          have e5 : decide (s.data.toList[s.size - 2]? ≠ some 48) = !f5 := by
           rw [decide_not, sep_bit 48 rfl HGY.out, <- hf5]
           unfold bne
           simp
          have e2 : decide (1 <= s.size - 21) = !f2 := by
           rw [<- hf2, <- le_lt]
           exact decide_eq_decide.2 (by omega)
          have e3 : decide (s.size - 21 <= 9) = !f3 := by
           rw [<- hf3, <- le_lt]
           exact decide_eq_decide.2 (by omega)
          rw [HFR.out, decide_eq_false (p := s.size <= 20) (by omega), Bool.false_or, sep_bit 46 rfl HG19.out, hf1, e2, e3, e5, show s.size - 21 = K by omega, hP, le_lt, hf4]
          cases f1 <;> cases f2 <;> cases f3 <;> cases f4 <;> cases f5 <;> rfl
         rw [HFF.out] at HS4
         obtain ⟨bad, hbad⟩ : ∃ b, (f1 || (f2 || (f3 || (f4 || f5)))) = b := ⟨_, rfl⟩
         rw [hbad] at HS4
         have HBD := Lib.hid hbad
         clear hbad HFF HFR HNP HGY HG19 hP h21
         have ef := flip_ne _ _ _ hf1
         have x19 : 19 < s.size := by omega
         have xy : s.size - 2 < s.size := by omega
         have HKK := Lib.hid hK
         clear hK
         go_upto_region 11 with fail
         try rw [hKe]
         go_cut [118] from 94 to 118 (fun v wq => v = .bool bad /\ wq = w)
         case first =>
          rcases sel5 f1 f2 f3 f4 f5 with (rfl | ⟨rfl, rfl⟩ | ⟨rfl, rfl, rfl⟩) | (⟨rfl, rfl, rfl, rfl⟩ | ⟨rfl, rfl, rfl, rfl, rfl⟩ | ⟨rfl, rfl, rfl, rfl, rfl⟩)
          all_goals
           simp only [Bool.not_false, Bool.not_true] at ef
           try have HP2 := Lib.hid (HP.out (by have := of_decide_eq_false hf3; omega))
           go_wp2_with (first | (go_at_call 84; (with_reducible refine (HP2.out _).mono ?_); rintro e w1 ⟨rfl, rfl⟩) | fail)
           go_meet
           exact ⟨by rw [<- HBD.out]; rfl, rfl⟩
         case rest =>
         obtain ⟨rfl, hwc⟩ := hcut
         obtain rfl : w = wc := hwc.symm
         clear hf1 hf2 hf3 hf4 hf5 ef HP HBD
         cases bad with
         | true =>
           have HRR : Hid (R = none) := HS4.out
           clear HS4
           go_wp2_with fail
           rw [HRR.out]
           refine bodyPost_ret (v := .tuple #[.int .i64 0, .bool false]) (by simp [results, Tryz.results45, go_sem]) rfl ⟨rfl, rfl⟩
         | false =>
           have HRR : Hid (R = some (d * 86400 + H * 3600 + I * 60 + C)) := HS4.out
           clear HS4
           go_wp2_with fail
           rw [HRR.out]
           refine bodyPost_ret (v := .tuple #[.int .i64 (d * 86400 + H * 3600 + I * 60 + C), .bool true]) (by simp [results, Tryz.results45, go_sem]) rfl ⟨rfl, rfl⟩
theorem rfold_any (s : ByteArray) (w : World) (hs : s.size <= 140737488351232) : Calls Tryz.prog 149 #[.string s] w fun e w' => e = .returned (.string (toB (foldL s.data.toList))) /\ Below w.heap.size w w' := by
 have hsz : s.data.toList.length = s.size := by rw [Array.length_toList]; rfl
 have HGE : Hid (∀ k, (h : k < s.size) -> s.data.toList[k]? = some s[k]) := fun k h => get_optS h
 have HSZ := Lib.hid hsz
 have s0 : (0 : Int) <= (s.size : Int) := Int.natCast_nonneg _
 clear hsz
 go_enter Tryz.func149, Tryz.ntmps149
 go_wp2_with fail
 go_loopw [3, 4] (fun u i wr => ∃ k : Nat, k <= s.size /\ i = .int .i64 (k : Int) /\ Hid (Own wr w.heap.size 5 encU 1 u (foldL (s.data.toList.take k)) /\ Below w.heap.size w wr)) (fun _ i _ => s.size - (intOf i).toNat)
 case atStart => exact ⟨0, by omega, rfl, Own.nil _ _ _, Below.refl _ _⟩
 case round =>
  obtain ⟨k, hk, rfl, hH⟩ := hrel
  have HO := Lib.hid hH.out.1
  have HB := Lib.hid hH.out.2
  clear hH
  have hk0 : (0 : Int) <= (k : Int) := Int.natCast_nonneg _
  by_cases hlt : k < s.size
  ·have hks : (k : Int) < (s.size : Int) := by omega
   have hbz := HB.out.size
   have hg := HGE.out k hlt
   obtain ⟨c, hc⟩ : ∃ c, s[k] = c := ⟨_, rfl⟩
   rw [hc] at hg
   have hcl := c.toNat_lt
   have HTK : Hid (foldL (s.data.toList.take (k + 1)) = foldL (s.data.toList.take k) ++ [foldC c]) := by
    unfold Hid foldL
    rw [List.take_add_one, hg, Option.toList_some, List.map_append]
    rfl
   have HF : Hid ((foldC c).toNat = if 65 <= c.toNat /\ c.toNat <= 90 then c.toNat + 32 else c.toNat) := by
    unfold Hid foldC
    have h1 : (65 <= c /\ c <= 90) ↔ (65 <= c.toNat /\ c.toNat <= 90) := by rw [UInt8.le_iff_toNat_le, UInt8.le_iff_toNat_le]; rfl
    by_cases h : 65 <= c.toNat /\ c.toNat <= 90
    ·rw [if_pos (h1.2 h), if_pos h, UInt8.toNat_add]
     show (c.toNat + 32) % 256 = _
     omega
    ·rw [if_neg (fun e => h (h1.1 e)), if_neg h]
   have hLl : (foldL (s.data.toList.take k)).length <= k := by unfold foldL; rw [List.length_map]; exact List.length_take_le _ _
   have HLN : Hid ((foldL (s.data.toList.take k)).length + [foldC c].length <= maxLen /\ ((foldL (s.data.toList.take k)).length + [foldC c].length) * 1 <= 140737488355328) := by
    simp only [List.length_singleton]
    exact ⟨by unfold maxLen; omega, by omega⟩
   have n0 : (0 : Int) <= ((c.toNat : Nat) : Int) := Int.natCast_nonneg _
   have n256 : ((c.toNat : Nat) : Int) < 256 := by omega
   clear hg hLl
   by_cases h1 : 65 <= c.toNat
   ·have q1 : decide ((65 : Int) <= ((c.toNat : Nat) : Int)) = true := decide_eq_true (by omega)
    by_cases h2 : c.toNat <= 90
    ·have q2 : decide (((c.toNat : Nat) : Int) <= 90) = true := decide_eq_true (by omega)
     have h2' : ((c.toNat : Nat) : Int) <= 90 := by omega
     have HRR : Hid ((foldC c).toNat = c.toNat + 32) := by unfold Hid; rw [HF.out, if_pos ⟨h1, h2⟩]
     have HR1 : Hid (Rd (wr.alloc (.cells #[.int .u8 (((c.toNat : Nat) : Int) + 32)] 5)) (wr.heap.size + 1) encU 1 (.slice (some ⟨wr.heap.size, 0, none⟩) 1 1) [foldC c]) := Rd.one codecU (heap_alloc_at rfl) (by unfold encU; rw [HRR.out]; simp) (by omega)
     have HO2 := Lib.hid (HO.out.alloc (.cells #[.int .u8 (((c.toNat : Nat) : Int) + 32)] 5))
     go_wp2_with (at_builtin; refine wpList_append_rd slU codecU (wr.alloc (.cells #[.int .u8 (((c.toNat : Nat) : Int) + 32)] 5)) rfl (.tmp 23) (.tmp 25) rfl (v := u3) rfl rfl HO2.out HR1.out HLN.out.1 HLN.out.2 (by simp; omega) ?_; intro v8 w8 ho8 hg8 hat8)
     go_roundw
     case rel =>
      refine ⟨k + 1, by omega, by go_num, ?_, Below.appended (HB.out.alloc hbz _) hg8 HO2.out (by simp; omega)⟩
      rw [HTK.out]
      exact ho8
     case measure => simp [intOf]; omega
    ·have q2 : decide (((c.toNat : Nat) : Int) <= 90) = false := decide_eq_false (by omega)
     have HRR : Hid ((foldC c).toNat = c.toNat) := by unfold Hid; rw [HF.out, if_neg (fun e => h2 e.2)]
     have HR1 : Hid (Rd (wr.alloc (.cells #[.int .u8 ((c.toNat : Nat) : Int)] 5)) (wr.heap.size + 1) encU 1 (.slice (some ⟨wr.heap.size, 0, none⟩) 1 1) [foldC c]) := Rd.one codecU (heap_alloc_at rfl) (by unfold encU; rw [HRR.out]) (by omega)
     have HO2 := Lib.hid (HO.out.alloc (.cells #[.int .u8 ((c.toNat : Nat) : Int)] 5))
     go_wp2_with (at_builtin; refine wpList_append_rd slU codecU (wr.alloc (.cells #[.int .u8 ((c.toNat : Nat) : Int)] 5)) rfl (.tmp 23) (.tmp 25) rfl (v := u3) rfl rfl HO2.out HR1.out HLN.out.1 HLN.out.2 (by simp; omega) ?_; intro v8 w8 ho8 hg8 hat8)
     go_roundw
     case rel =>
      refine ⟨k + 1, by omega, by go_num, ?_, Below.appended (HB.out.alloc hbz _) hg8 HO2.out (by simp; omega)⟩
      rw [HTK.out]
      exact ho8
     case measure => simp [intOf]; omega
   ·have q1 : decide ((65 : Int) <= ((c.toNat : Nat) : Int)) = false := decide_eq_false (by omega)
    have HRR : Hid ((foldC c).toNat = c.toNat) := by unfold Hid; rw [HF.out, if_neg (fun e => h1 e.1)]
    have HR1 : Hid (Rd (wr.alloc (.cells #[.int .u8 ((c.toNat : Nat) : Int)] 5)) (wr.heap.size + 1) encU 1 (.slice (some ⟨wr.heap.size, 0, none⟩) 1 1) [foldC c]) := Rd.one codecU (heap_alloc_at rfl) (by unfold encU; rw [HRR.out]) (by omega)
    have HO2 := Lib.hid (HO.out.alloc (.cells #[.int .u8 ((c.toNat : Nat) : Int)] 5))
    go_wp2_with (at_builtin; refine wpList_append_rd slU codecU (wr.alloc (.cells #[.int .u8 ((c.toNat : Nat) : Int)] 5)) rfl (.tmp 23) (.tmp 25) rfl (v := u3) rfl rfl HO2.out HR1.out HLN.out.1 HLN.out.2 (by simp; omega) ?_; intro v8 w8 ho8 hg8 hat8)
    go_roundw
    case rel =>
     refine ⟨k + 1, by omega, by go_num, ?_, Below.appended (HB.out.alloc hbz _) hg8 HO2.out (by simp; omega)⟩
     rw [HTK.out]
     exact ho8
    case measure => simp [intOf]; omega
  ·obtain rfl : k = s.size := by omega
   have hta : s.data.toList.take s.size = s.data.toList := by rw [<- HSZ.out, List.take_length]
   have ho := HO.out
   rw [hta] at ho
   have hback := str_of_own ho
   clear ho
   go_wp2_with fail
   go_ret
   exact ⟨rfl, HB.out⟩
theorem beq_cmp : ∀ a b : List UInt8, (a == b) = decide (Go.Lib.compareBytes a b = 0)
 | [], [] => by decide
 | [], _ :: _ => by exact (decide_eq_false (show ¬ (-1 : Int) = 0 by decide)).symm
 | _ :: _, [] => by exact (decide_eq_false (show ¬ (1 : Int) = 0 by decide)).symm
 | x :: a, y :: b => by
   have ih := beq_cmp a b
   unfold Go.Lib.compareBytes
   by_cases h : x < y
   ·have hne : x ≠ y := fun e => by rw [e] at h; exact UInt8.lt_irrefl _ h
    rw [if_pos h]
    simp [hne]
   ·rw [if_neg h]
    by_cases h2 : y < x
    ·have hne : x ≠ y := fun e => by rw [e] at h2; exact UInt8.lt_irrefl _ h2
     rw [if_pos h2]
     simp [hne]
    ·have he : x = y := UInt8.le_antisymm (UInt8.not_lt.1 h2) (UInt8.not_lt.1 h)
     rw [if_neg h2, <- ih]
     subst he
     simp
theorem rscomp_any (s t : ByteArray) (w : World) (hs : s.size <= maxLen) (ht : t.size <= maxLen) : Calls Tryz.prog 16 #[.string s, .string t] w fun e w' => e = .returned (.int .i64 (cmpS s.data.toList t.data.toList)) /\ w = w' := by
 have HSA : Hid (∀ W, Calls Tryz.prog 45 #[.string s] W fun e w' => e = .returned (secRet (secF s.data.toList)) /\ W = w') := fun W => by rw [<- secR_eq]; exact rsec_any s W hs
 have HSB : Hid (∀ W, Calls Tryz.prog 45 #[.string t] W fun e w' => e = .returned (secRet (secF t.data.toList)) /\ W = w') := fun W => by rw [<- secR_eq]; exact rsec_any t W ht
 have HR : Hid (cmpS s.data.toList t.data.toList = match secF s.data.toList, secF t.data.toList with
  | none, none => Go.Lib.compareBytes s.data.toList t.data.toList
  | none, some _ => -1
  | some _, none => 1
  | some x, some y => if x < y then -1 else if y < x then 1 else Go.Lib.compareBytes (partF s.data.toList) (partF t.data.toList)) := rfl
 obtain ⟨R, hR⟩ : ∃ R, cmpS s.data.toList t.data.toList = R := ⟨_, rfl⟩
 rw [hR] at HR
 rw [hR]
 clear hR
 have HPA : Hid (∀ x, secF s.data.toList = some x -> ∀ W, Calls Tryz.prog 46 #[.string s] W fun e w' => e = .returned (.int .i64 (partN s.data.toList)) /\ W = w') := fun x h W => rpart_any s W (secF_tl h).2
 have HPB : Hid (∀ x, secF t.data.toList = some x -> ∀ W, Calls Tryz.prog 46 #[.string t] W fun e w' => e = .returned (.int .i64 (partN t.data.toList)) /\ W = w') := fun x h W => rpart_any t W (secF_tl h).2
 have HCP : Hid (∀ x y, secF s.data.toList = some x -> secF t.data.toList = some y -> Go.Lib.compareBytes (partF s.data.toList) (partF t.data.toList) = sgnI (partN s.data.toList - partN t.data.toList)) := fun x y hx hy => cmp_part (secF_tl hx).2 (secF_tl hy).2
 have hl : Op.bytesLess s.toList t.toList = decide (Go.Lib.compareBytes s.data.toList t.data.toList < 0) := by rw [ByteArray.toList_eq, ByteArray.toList_eq]; exact bytesLess_cmp _ _
 have hg : (s.toList == t.toList) = decide (Go.Lib.compareBytes s.data.toList t.data.toList = 0) := by rw [ByteArray.toList_eq, ByteArray.toList_eq]; exact beq_cmp _ _
 have hb := cmpB_bound s.data.toList t.data.toList
 obtain ⟨cp, hcp⟩ : ∃ n, Go.Lib.compareBytes (partF s.data.toList) (partF t.data.toList) = n := ⟨_, rfl⟩
 obtain ⟨cm, hcm⟩ : ∃ n, Go.Lib.compareBytes s.data.toList t.data.toList = n := ⟨_, rfl⟩
 rw [hcp] at HR HCP
 rw [hcm] at HR hl hg hb
 obtain ⟨PA, hPA⟩ : ∃ P, partN s.data.toList = P := ⟨_, rfl⟩
 obtain ⟨PB, hPB⟩ : ∃ P, partN t.data.toList = P := ⟨_, rfl⟩
 rw [hPA] at HPA HCP
 rw [hPB] at HPB HCP
 obtain ⟨oa, hoa⟩ : ∃ o, secF s.data.toList = o := ⟨_, rfl⟩
 obtain ⟨ob, hob⟩ : ∃ o, secF t.data.toList = o := ⟨_, rfl⟩
 rw [hoa] at HSA HPA HR HCP
 rw [hob] at HSB HPB HR HCP
 clear hPA hPB hcp hcm hoa hob hs ht
 unfold secRet at HSA HSB
 cases oa with
 | none => cases ob with
   | none =>
     have HRR : Hid (R = cm) := HR.out
     clear HR HPA HPB HCP
     dsimp only at HSA HSB
     rcases (show cm = -1 \/ cm = 0 \/ cm = 1 by omega) with rfl | rfl | rfl
     all_goals
      have hl2 : Op.bytesLess s.toList t.toList = _ := hl.trans (by first | exact decide_eq_true (by decide) | exact decide_eq_false (by decide))
      have hg2 : (s.toList == t.toList) = _ := hg.trans (by first | exact decide_eq_true (by decide) | exact decide_eq_false (by decide))
      clear hl hg hb
      go_enter Tryz.func16, Tryz.ntmps16
      go_wp2_with (first | (go_at_call 45; (with_reducible refine (HSA.out _).mono ?_); rintro e w1 ⟨rfl, rfl⟩) | (go_at_call 45; (with_reducible refine (HSB.out _).mono ?_); rintro e w2 ⟨rfl, rfl⟩) | fail)
      rw [HRR.out]
      go_ret
      exact ⟨rfl, rfl⟩
   | some y =>
     have HRR : Hid (R = -1) := HR.out
     clear HR HPA HPB HCP hl hg hb
     dsimp only at HSA HSB
     go_enter Tryz.func16, Tryz.ntmps16
     go_wp2_with (first | (go_at_call 45; (with_reducible refine (HSA.out _).mono ?_); rintro e w1 ⟨rfl, rfl⟩) | (go_at_call 45; (with_reducible refine (HSB.out _).mono ?_); rintro e w2 ⟨rfl, rfl⟩) | fail)
     rw [HRR.out]
     go_ret
     exact ⟨rfl, rfl⟩
 | some x => cases ob with
   | none =>
     have HRR : Hid (R = 1) := HR.out
     clear HR HPA HPB HCP hl hg hb
     dsimp only at HSA HSB
     go_enter Tryz.func16, Tryz.ntmps16
     go_wp2_with (first | (go_at_call 45; (with_reducible refine (HSA.out _).mono ?_); rintro e w1 ⟨rfl, rfl⟩) | (go_at_call 45; (with_reducible refine (HSB.out _).mono ?_); rintro e w2 ⟨rfl, rfl⟩) | fail)
     rw [HRR.out]
     go_ret
     exact ⟨rfl, rfl⟩
   | some y =>
     have HQA := Lib.hid (HPA.out x rfl)
     have HQB := Lib.hid (HPB.out y rfl)
     have hcp := HCP.out x y rfl rfl
     clear HPA HPB HCP hl hg hb
     dsimp only at HSA HSB
     by_cases hxy : x = y
     ·subst hxy
      have q1 : (x == x) = true := by simp
      have HRR : Hid (R = cp) := HR.out.trans ((if_neg (Int.lt_irrefl _)).trans (if_neg (Int.lt_irrefl _)))
      clear HR
      rcases (show PA < PB \/ PA = PB \/ PB < PA by omega) with h | h | h
      ·have hv : cp = -1 := by rw [hcp]; unfold sgnI; rw [if_pos (by omega)]
       subst hv
       clear hcp
       have q2 : decide (PA < PB) = true := decide_eq_true h
       go_enter Tryz.func16, Tryz.ntmps16
       go_wp2_with (first | (go_at_call 45; (with_reducible refine (HSA.out _).mono ?_); rintro e w1 ⟨rfl, rfl⟩) | (go_at_call 45; (with_reducible refine (HSB.out _).mono ?_); rintro e w2 ⟨rfl, rfl⟩) | (go_at_call 46; (with_reducible refine (HQA.out _).mono ?_); rintro e w3 ⟨rfl, rfl⟩) | (go_at_call 46; (with_reducible refine (HQB.out _).mono ?_); rintro e w3 ⟨rfl, rfl⟩) | fail)
       rw [HRR.out]
       go_ret
       exact ⟨rfl, rfl⟩
      ·subst h
       have hv : cp = 0 := by rw [hcp]; unfold sgnI; rw [if_neg (by omega), if_neg (by omega)]
       subst hv
       clear hcp
       have q2 : decide (PA < PA) = false := decide_eq_false (Int.lt_irrefl _)
       go_enter Tryz.func16, Tryz.ntmps16
       go_wp2_with (first | (go_at_call 45; (with_reducible refine (HSA.out _).mono ?_); rintro e w1 ⟨rfl, rfl⟩) | (go_at_call 45; (with_reducible refine (HSB.out _).mono ?_); rintro e w2 ⟨rfl, rfl⟩) | (go_at_call 46; (with_reducible refine (HQA.out _).mono ?_); rintro e w3 ⟨rfl, rfl⟩) | (go_at_call 46; (with_reducible refine (HQB.out _).mono ?_); rintro e w3 ⟨rfl, rfl⟩) | fail)
       rw [HRR.out]
       go_ret
       exact ⟨rfl, rfl⟩
      ·have hv : cp = 1 := by rw [hcp]; unfold sgnI; rw [if_neg (by omega), if_pos (by omega)]
       subst hv
       clear hcp
       have q2 : decide (PA < PB) = false := decide_eq_false (by omega)
       have q3 : decide (PB < PA) = true := decide_eq_true h
       go_enter Tryz.func16, Tryz.ntmps16
       go_wp2_with (first | (go_at_call 45; (with_reducible refine (HSA.out _).mono ?_); rintro e w1 ⟨rfl, rfl⟩) | (go_at_call 45; (with_reducible refine (HSB.out _).mono ?_); rintro e w2 ⟨rfl, rfl⟩) | (go_at_call 46; (with_reducible refine (HQA.out _).mono ?_); rintro e w3 ⟨rfl, rfl⟩) | (go_at_call 46; (with_reducible refine (HQB.out _).mono ?_); rintro e w3 ⟨rfl, rfl⟩) | fail)
       rw [HRR.out]
       go_ret
       exact ⟨rfl, rfl⟩
     ·have q1 : (x == y) = false := by simpa using hxy
      clear hcp HQA HQB
      by_cases hlt : x < y
      ·have HRR : Hid (R = -1) := HR.out.trans (if_pos hlt)
       have q2 : decide (x < y) = true := decide_eq_true hlt
       clear HR
       go_enter Tryz.func16, Tryz.ntmps16
       go_wp2_with (first | (go_at_call 45; (with_reducible refine (HSA.out _).mono ?_); rintro e w1 ⟨rfl, rfl⟩) | (go_at_call 45; (with_reducible refine (HSB.out _).mono ?_); rintro e w2 ⟨rfl, rfl⟩) | fail)
       rw [HRR.out]
       go_ret
       exact ⟨rfl, rfl⟩
      ·have HRR : Hid (R = 1) := HR.out.trans ((if_neg hlt).trans (if_pos (by omega)))
       have q2 : decide (x < y) = false := decide_eq_false hlt
       have q3 : decide (y < x) = true := decide_eq_true (by omega)
       clear HR
       go_enter Tryz.func16, Tryz.ntmps16
       go_wp2_with (first | (go_at_call 45; (with_reducible refine (HSA.out _).mono ?_); rintro e w1 ⟨rfl, rfl⟩) | (go_at_call 45; (with_reducible refine (HSB.out _).mono ?_); rintro e w2 ⟨rfl, rfl⟩) | fail)
       rw [HRR.out]
       go_ret
       exact ⟨rfl, rfl⟩
def ascB : ByteArray := ⟨#[105, 115, 65, 115, 99, 101, 110, 100, 105, 110, 103]⟩
def prpB : ByteArray := ⟨#[112, 114, 111, 112, 101, 114, 116, 121]⟩
def downJ (tc : JV) : Bool := match tc.get ascB with | some x => decide (x.n = 0) | none => false
theorem TreeOf.nn {w : World} {B : Nat} {t : JV} {r : RV} (h : TreeOf w B t r) : r.n = t.n := by cases h; rfl
theorem headD_snoc (L : List ByteArray) : (L ++ [(⟨#[]⟩ : ByteArray)])[0]? = some (L.headD ⟨#[]⟩) := by cases L <;> rfl
theorem partsJ_len {t : JV} (h : t.Ok) (k : ByteArray) : (partsJ (nameV t) k).length <= 1759218604390 := by
 rw [partsJ_of]
 exact Nat.le_trans (partsL_len _ _) (inJ_ok (nameV_ok h)).1
theorem keyK_small {t : JV} (h : t.Ok) (p : ByteArray) : (keyK t p).size <= 140737488351232 := by
 have hT : ∀ (u : JV) (ou : u.Ok) (name x : ByteArray), x ∈ textM u name -> x.size <= 140737488351232 := fun u ou name x hx => by
  unfold textM at hx
  cases hg : u.get name with
  | none => rw [hg] at hx; cases hx
  | some v =>
    rw [hg] at hx
    dsimp only at hx
    split at hx
    ·rw [List.mem_singleton] at hx; subst hx; exact (ou.get hg).s_le.1
    ·cases hx
 have hH : ∀ (l : List ByteArray), (∀ x ∈ l, x.size <= 140737488351232) -> (l.headD ⟨#[]⟩).size <= 140737488351232 := fun l hl => by
  cases l with
  | nil => exact Nat.zero_le _
  | cons a r => exact hl a (List.mem_cons_self ..)
 unfold keyK
 split
 ·exact hH _ (fun x hx => hT t h _ x hx)
 ·refine hH _ (fun x hx => ?_)
  have hx : x ∈ partsJ (nameV t) (p.extract 5 p.size) := hx
  rw [partsJ_of] at hx
  unfold partsL at hx
  obtain ⟨c, hc, hxc⟩ := List.mem_flatMap.1 hx
  obtain ⟨i, hi⟩ := List.mem_iff_getElem?.1 (List.mem_filter.1 hc).1
  exact hT c ((inJ_ok (nameV_ok h)).2 i c hi) _ x hxc
theorem find_bind {α β : Type} (f : α -> Bool) (g : α -> β) : ∀ l : List α, ((l.findIdx? f).bind fun i => l[i]?.map g) = (l.find? f).map g
 | [] => rfl
 | x :: l => by
   have ih := find_bind f g l
   rw [List.findIdx?_cons, List.find?_cons]
   cases h : f x with
   | true => rfl
   | false =>
     rw [<- ih]
     cases l.findIdx? f <;> rfl
theorem get_mOf {t : JV} (h : t.k = 6) (n : ByteArray) : t.get n = mOf t.m n := by
 have hm : t.mem = t.m := by cases t; exact if_pos h
 unfold JV.get JV.place mOf
 rw [hm]
 exact find_bind _ _ _
theorem get_not {t : JV} (h : t.k ≠ 6) (n : ByteArray) : t.get n = none := by
 have hm : t.mem = [] := by cases t; exact if_neg h
 unfold JV.get JV.place
 rw [hm]
 rfl
theorem rhas_any (t : JV) (r : RV) (name : ByteArray) (w : World) (B : Nat) (hBw : B <= w.heap.size) (ht : TreeOf w B t r) (ot : t.Ok) :
 Calls Tryz.prog 30 #[r.val, .string name] w fun e w' => e = .returned (.bool (t.get name).isSome) /\ Below w.heap.size w w' := by
 obtain ⟨W0, hW0⟩ : ∃ W0, w.alloc r.obj = W0 := ⟨_, rfl⟩
 have hA0 : VAt W0 w.heap.size r := by rw [<- hW0]; exact heap_alloc_at rfl
 have hB0 : Below w.heap.size w W0 := by rw [<- hW0]; exact (Below.refl _ _).alloc (Nat.le_refl _) _
 have hw0 := hB0.size
 have HC := Lib.hid (refGetB_any t r name W0 B (Nat.le_trans hBw hw0) (ht.under (hB0.mono hBw) (Nat.le_refl _)) ot)
 obtain ⟨o, ho⟩ : ∃ o, t.get name = o := ⟨_, rfl⟩
 rw [ho] at HC
 rw [ho]
 obtain ⟨k, n, s, pl, nl, cl, pm, nm, cm⟩ := r
 dsimp only [RV.val, RV.obj] at *
 have HW := Lib.hid hW0
 have HB0 := Lib.hid hB0
 clear hW0 hB0 ht ot ho
 go_enter Tryz.func30, Tryz.ntmps30
 go_upto_region 1 with fail
 rw [HW.out]
 clear HW
 obtain ⟨a0, a1, a2, a3, a4⟩ := hA0.cells5
 go_wp2_with (go_at_call 61; (with_reducible refine HC.out.mono ?_); rintro e w1 ⟨rv, bb, rfl, hbb, ht1, hb1⟩; (have HBB := Lib.hid hbb); clear hbb; obtain ⟨rk, rn, rS, rpl, rnl, rcl, rpm, rnm, rcm⟩ := rv)
 go_ret
 exact ⟨by rw [<- HBB.out]; rfl, HB0.out.trans ((hb1.alloc hb1.size _).mono hw0)⟩
def wantC (n : ByteArray) : Int := if n = ascN then 2 else if n = propN \/ n = collN then 4 else 0
theorem memC_want (x : ByteArray × JV) : memC x = (decide (x.2.k = wantC x.1) && decide (wantC x.1 ≠ 0)) := by
 unfold wantC
 by_cases h1 : x.1 = propN
 ·rw [memC_prop h1, if_neg (by rw [h1]; exact pa_ne), if_pos (.inl h1)]
  simp
 ·by_cases h2 : x.1 = ascN
  ·rw [memC_asc h2, if_pos h2]
   simp
  ·by_cases h3 : x.1 = collN
   ·rw [memC_coll h3, if_neg h2, if_pos (.inr h3)]
    simp
   ·rw [memC_else h1 h2 h3, if_neg h2, if_neg (by simp [h1, h3])]
    simp
theorem oneE_has {v : JV} (hk : v.k = 6) (h : (mOf v.m propN).isSome = false) : oneE v = 1 := by
 unfold oneE
 rw [if_neg (by simp [hk])]
 split
 ·rfl
 ·rw [Option.isSome_eq_false_iff, Option.isNone_iff_eq_none] at h
  rw [h]
theorem oneE_end {v : JV} (hk : v.k = 6) (hb : firstBad v.m [] = false) {p : JV} (hp : mOf v.m propN = some p) : oneE v = if ((mOf v.m collN).isSome && !decide (((mOf v.m collN).getD JV.zero).s = asciiN)) || !propOk p.s then 210 else 0 := by
 unfold oneE
 rw [if_neg (by simp [hk]), hb, if_neg (by decide), hp]
 dsimp only
 cases mOf v.m collN with
 | none => rfl
 | some c =>
   by_cases h : c.s = asciiN <;> simp [h]
theorem sel5p : ∀ a b c d e : Bool, (a = true \/ (a = false /\ b = true) \/ (a = false /\ b = false /\ c = true)) \/ ((a = false /\ b = false /\ c = false /\ d = true) \/ (a = false /\ b = false /\ c = false /\ d = false /\ e = true) \/ (a = false /\ b = false /\ c = false /\ d = false /\ e = false)) := sel5
theorem oneE_get {x : JV} (h : oneE x = 0) : ∃ vp, x.get prpB = some vp /\ PropOk vp.s /\ oneC x = ⟨vp.s, downJ x⟩ := by
 have hk : x.k = 6 := by
  by_cases hk : x.k = 6
  ·exact hk
  ·rw [oneE_kind hk] at h; cases h
 have hb : firstBad x.m [] = false := by
  cases hb : firstBad x.m [] with
  | false => rfl
  | true => rw [oneE_bad hb] at h; cases h
 cases hp : mOf x.m propN with
 | none =>
   rw [oneE_has hk (by rw [hp]; rfl)] at h
   cases h
 | some vp =>
   rw [oneE_end hk hb hp] at h
   refine ⟨vp, (get_mOf hk prpB).trans hp, ?_, ?_⟩
   ·have hpo : propOk vp.s = true := by
     cases hpo : propOk vp.s with
     | true => rfl
     | false => rw [hpo] at h; simp at h
    unfold propOk at hpo
    simp only [Bool.or_eq_true, decide_eq_true_eq] at hpo
    unfold PropOk datedB
    simp only [Bool.or_eq_true, decide_eq_true_eq]
    rcases hpo with h | h | h | h | h
    ·exact .inl (.inl h)
    ·exact .inl (.inr h)
    ·exact .inr (.inl h)
    ·exact .inr (.inr (.inl h))
    ·exact .inr (.inr (.inr h))
   ·unfold oneC downJ
    rw [hp, get_mOf hk ascB]
    rfl
theorem listE_all {l : List JV} (h : listE l = 0) : ∀ x ∈ l, oneE x = 0 := by
 induction l with
 | nil => intro x hx; cases hx
 | cons a r ih =>
   intro x hx
   unfold listE at h
   by_cases ha : oneE a = 0
   ·rw [if_neg (by simp [ha])] at h
    rcases List.mem_cons.1 hx with rfl | hx
    ·exact ha
    ·exact ih h x hx
   ·rw [if_pos ha] at h
    exact absurd h ha
theorem sortC_all {t : JV} (hown : t.k ≠ 5 -> t.l = []) (h : sortE t = 0) : sortC t = t.l.map oneC /\ ∀ x ∈ t.l, oneE x = 0 := by
 by_cases hk : t.k = 5
 ·refine ⟨sortC_list hk h, ?_⟩
  by_cases hm : 4 < t.l.length
  ·rw [(sortE_many hk hm).1] at h; cases h
  ·rw [sortE_list hk hm] at h
   exact listE_all h
 ·rw [hown hk]
  exact ⟨if_neg (fun e => hk e.1), fun x hx => by cases hx⟩
end
end Go.Proofs.YtffhccmppdgmfaaGreatDoor
