import Derived.Test.YtfgjimpmpckgpaaGreatDoorSg26
import Derived.Test.YtfgjimpmpckgpaaGreatDoorSg23
import Derived.Shelf.Small.Strs
import Derived.Shelf.Strings.Prefix
import Derived.Test.YtfgjimpmpckgpaaGreatDoorProg
import Derived.Test.YtfgjimpmpckgpaaGreatDoorSg12
set_option linter.unusedSimpArgs false
set_option linter.unusedVariables false
set_option maxRecDepth 200000
set_option maxHeartbeats 8000000
namespace Go.Proofs.YtfgjimpmpckgpaaGreatDoor
section
open Go Go.RowKit Go.OpenShut
theorem isD_any (c : UInt8) (w : World) : Calls Tryz.prog 166 #[.int .u8 c.toNat] w fun e w' => e = .returned (.bool (digU c)) /\ w = w' := by
 have HDG : Hid (digU c = (decide (48 <= c.toNat) && decide (c.toNat <= 57))) := rfl
 by_cases a5 : 48 <= c.toNat <;> by_cases a6 : c.toNat <= 57
 all_goals first | (exfalso; omega) | skip
 all_goals
  have HR : Hid (digU c = (decide (48 <= c.toNat) && decide (c.toNat <= 57))) := rfl
  rw [HR.out]
  first
   | (have d5 : decide ((48 : Int) <= ((c.toNat : Nat) : Int)) = true := decide_eq_true (by omega)
      have p5 : (48 : Int) <= ((c.toNat : Nat) : Int) := by omega)
   | (have d5 : decide ((48 : Int) <= ((c.toNat : Nat) : Int)) = false := decide_eq_false (by omega)
      have p5 : ¬ ((48 : Int) <= ((c.toNat : Nat) : Int)) := by omega)
  first
   | (have d6 : decide (((c.toNat : Nat) : Int) <= 57) = true := decide_eq_true (by omega)
      have p6 : ((c.toNat : Nat) : Int) <= 57 := by omega)
   | (have d6 : decide (((c.toNat : Nat) : Int) <= 57) = false := decide_eq_false (by omega)
      have p6 : ¬ (((c.toNat : Nat) : Int) <= 57) := by omega)
  go_enter Tryz.func166, Tryz.ntmps166
  go_wp2_with fail
  go_ret
  simp [a5, a6]
theorem gfold_range {l : List UInt8} (h : l.all digU = true) : 0 <= (gfold l).1 /\ (gfold l).1 <= 9007199254740999 := by
 obtain ⟨_, _, h3, h4⟩ := gfold_is _ l rfl h
 exact ⟨h3, h4⟩
theorem dropTake_snoc {l : List UInt8} {F k : Nat} {c : UInt8} (hF : F <= k) (h : l[k]? = some c) : (l.drop F).take (k + 1 - F) = (l.drop F).take (k - F) ++ [c] := by
 rw [show k + 1 - F = (k - F) + 1 by omega, List.take_add_one, List.getElem?_drop, show F + (k - F) = k by omega, h]
 rfl
theorem spanE_digs {l : List UInt8} {F k E : Nat} (hF : F <= k) (hs : spanE l F = E) (hk : spanE l k = E) : k <= E := by
 rw [<- hk]
 unfold spanE
 omega
theorem refRead_any (s : ByteArray) (m : Nat) (w : World) (hs : s.size <= maxLen) (hm : m <= s.size) : Calls Tryz.prog 128 #[.string s, .int .i64 m] w fun e w' => e = .returned (readRet s.data.toList m) /\ w = w' := by
 have hs1 : s.size <= maxLen := hs
 unfold maxLen at hs
 have hsz : s.data.toList.length = s.size := by rw [Array.length_toList]; rfl
 have hm0 : (0 : Int) <= (m : Int) := Int.natCast_nonneg _
 have q1 : decide ((m : Int) < 0) = false := decide_eq_false (by omega)
 have q1' : ¬ ((m : Int) < 0) := by omega
 by_cases hlt : m < s.size
 ·have q2 : decide ((s.size : Int) <= (m : Int)) = false := decide_eq_false (by omega)
  have q2' : ¬ ((s.size : Int) <= (m : Int)) := by omega
  have q3 : (m : Int) < (s.size : Int) := by omega
  have hget := get_opt hlt
  obtain ⟨c, hc⟩ : ∃ c, s[m] = c := ⟨_, rfl⟩
  rw [hc] at hget
  have hfr : fromN (s.data.toList.drop m) = if c.toNat = 45 then 1 else 0 := by
   unfold fromN
   rw [List.head?_drop, hget]
   by_cases h : c = 45
   ·rw [h]; rfl
   ·have h2 : ¬ c.toNat = 45 := fun e => h (UInt8.toNat_inj.1 e)
    rw [if_neg (fun e => h (Option.some.inj e)), if_neg h2]
  obtain ⟨F, hF⟩ : ∃ F, F = m + fromN (s.data.toList.drop m) := ⟨_, rfl⟩
  obtain ⟨E, hE⟩ : ∃ E, E = spanE s.data.toList F := ⟨_, rfl⟩
  have hFs : F <= s.size := by rw [hF, hfr]; split <;> omega
  obtain ⟨hFE, hEs⟩ := spanE_le s.data.toList (k := F) (by omega)
  rw [<- hE] at hFE hEs
  rw [hsz] at hEs
  have HOK := Lib.hid (rdOk_eq hF hE)
  have HSG := Lib.hid (signN_eq hF hE)
  have HEN : Hid (m + endN (s.data.toList.drop m) = E) := by
   have h := spanE_from s.data.toList m
   rw [<- hF, <- hE] at h
   exact h.symm
  have hDA : ((s.data.toList.drop F).take (E - F)).all digU = true := by
   rw [hF, hE, hF, <- digsN_cut]
   unfold digsN
   exact takeWhile_all _
  have HDA := Lib.hid hDA
  have HSE : Hid (spanE s.data.toList F = E) := hE.symm
  have HGE : Hid (∀ k, (h : k < s.size) -> s.data.toList[k]? = some s[k]) := fun k h => get_opt h
  have HNG : Hid (∀ k, s.size <= k -> s.data.toList[k]? = none) := fun k h => List.getElem?_eq_none (by omega)
  have HFR : Hid (F = if c.toNat = 45 then m + 1 else m) := by
   unfold Hid
   rw [hF, hfr]
   split <;> rfl
  have HIS : Hid (∀ (c : UInt8) W, Calls Tryz.prog 166 #[.int .u8 c.toNat] W fun e w' => e = .returned (.bool (digU c)) /\ W = w') := isD_any
  have HLZ := Lib.hid hsz
  clear hF hE hfr hget hDA hsz
  obtain ⟨R, hR⟩ : ∃ R, readRet s.data.toList m = R := ⟨_, rfl⟩
  rw [hR]
  have HR := Lib.hid hR
  clear hR
  have hF0 : (0 : Int) <= (F : Int) := Int.natCast_nonneg _
  have hE0 : (0 : Int) <= (E : Int) := Int.natCast_nonneg _
  have hFE' : (F : Int) <= (E : Int) := by omega
  have hEs' : (E : Int) <= (s.size : Int) := by omega
  obtain ⟨mb, hmb⟩ : ∃ b, (((c.toNat : Nat) : Int) == 45) = b := ⟨_, rfl⟩
  have HMB : Hid (mb = decide (c.toNat = 45)) := by
   unfold Hid
   rw [<- hmb]
   by_cases h : c.toNat = 45
   ·rw [decide_eq_true h, h]; rfl
   ·rw [decide_eq_false h]; simp; omega
  go_enter Tryz.func128, Tryz.ntmps128
  go_upto_if 24 with fail
  go_cut [7] from 25 to 26 (fun v wr => v = .int .i64 (F : Nat) /\ wr = w)
  case first =>
   have hf := HFR.out
   have hb := HMB.out
   cases mb
   ·have a1 : ¬ c.toNat = 45 := of_decide_eq_false hb.symm
    rw [if_neg a1] at hf
    clear a1 hb
    have HF2 := Lib.hid hf
    clear hf
    go_wp2_with fail
    go_meet
    exact ⟨by rw [HF2.out], rfl⟩
   ·have a1 : c.toNat = 45 := of_decide_eq_true hb.symm
    rw [if_pos a1] at hf
    clear a1 hb
    have HF2 := Lib.hid hf
    clear hf
    go_wp2_with fail
    go_meet
    exact ⟨by rw [HF2.out]; go_num, rfl⟩
  case rest =>
  obtain ⟨rfl, hwc⟩ := hcut
  obtain rfl : w = wc := hwc.symm
  go_wp2_with fail
  go_loop [7, 9, 10] (fun i n g => ∃ k : Nat, F <= k /\ k <= s.size /\ i = .int .i64 (k : Int) /\ n = .int .i64 (gfold ((s.data.toList.drop F).take (k - F))).1 /\ g = .bool (gfold ((s.data.toList.drop F).take (k - F))).2 /\ Hid (spanE s.data.toList k = E)) (fun i _ _ => s.size - (intOf i).toNat)
  case atStart => exact ⟨F, Nat.le_refl _, hFs, rfl, (by rw [Nat.sub_self]; rfl), (by rw [Nat.sub_self]; rfl), HSE.out⟩
  case round =>
   obtain ⟨k, hFk, hk, rfl, rfl, rfl, hH⟩ := hrel
   have k0 : (0 : Int) <= (k : Int) := Int.natCast_nonneg _
   have hkE : k <= E := spanE_digs hFk HSE.out hH.out
   have hkE' : (k : Int) <= (E : Int) := by omega
   have hall : ((s.data.toList.drop F).take (k - F)).all digU = true := by
    have h := HDA.out
    rw [show (s.data.toList.drop F).take (E - F) = ((s.data.toList.drop F).take (k - F)) ++ (((s.data.toList.drop F).drop (k - F)).take (E - k)) by rw [<- List.take_append_drop (k - F) ((s.data.toList.drop F).take (E - F)), List.take_take, List.drop_take, Nat.min_eq_left (by omega), show E - F - (k - F) = E - k by omega], List.all_append, Bool.and_eq_true] at h
    exact h.1
   obtain ⟨hn0, hn1⟩ := gfold_range hall
   obtain ⟨⟨n, g⟩, hgf⟩ : ∃ p, gfold ((s.data.toList.drop F).take (k - F)) = p := ⟨_, rfl⟩
   rw [hgf] at hn0 hn1
   rw [hgf]
   dsimp only at hn0 hn1 ⊢
   have HG := Lib.hid hgf
   clear hgf hall
   obtain ⟨d, hd⟩ : ∃ d, decide (k < E) = d := ⟨_, rfl⟩
   have HD := Lib.hid hd
   clear hd
   go_upto_region 9 with fail
   go_cut [37] from 28 to 37 (fun v wr => v = .bool d /\ wr = w)
   case first =>
    by_cases hks : k < s.size
    ·have k1 : (k : Int) < (s.size : Int) := by omega
     have k2 : decide ((k : Int) < (s.size : Int)) = true := decide_eq_true k1
     have hg := HGE.out k hks
     obtain ⟨b, hb⟩ : ∃ c, s[k] = c := ⟨_, rfl⟩
     rw [hb] at hg
     have HDC : Hid (digU b = d) := by
      unfold Hid
      rw [<- HD.out]
      cases hdb : digU b with
      | true =>
        have h1 := spanE_step hg hdb
        rw [hH.out] at h1
        have h2 := (spanE_le s.data.toList (k := k + 1) (by have := HLZ.out; omega)).1
        rw [decide_eq_true (by omega)]
      | false =>
        have h1 := spanE_stop hg hdb
        rw [hH.out] at h1
        rw [decide_eq_false (by omega)]
     clear hg
     go_wp2_with (first | (go_at_call 166; refine (HIS.out _ _).mono ?_; rintro e w1 ⟨rfl, rfl⟩; rw [HDC.out]) | fail)
     go_meet
     exact ⟨rfl, rfl⟩
    ·have k1 : ¬ (k : Int) < (s.size : Int) := by omega
     have k2 : decide ((k : Int) < (s.size : Int)) = false := decide_eq_false k1
     have HDC : Hid (d = false) := by
      unfold Hid
      rw [<- HD.out, decide_eq_false (by omega)]
     go_wp2_with fail
     go_meet
     exact ⟨by rw [HDC.out], rfl⟩
   case rest =>
   obtain ⟨rfl, hwc⟩ := hcut
   obtain rfl : w = wc := hwc.symm
   cases d
   ·obtain rfl : E = k := by have := of_decide_eq_false HD.out; omega
    have HGR := Lib.hid (gfold_great HDA.out)
    obtain ⟨hgi, _, _, _⟩ := gfold_is _ _ rfl HDA.out
    have HGI := Lib.hid hgi
    clear hgi
    rw [HG.out] at HGR HGI
    dsimp only at HGR HGI
    obtain ⟨D, hDD⟩ : ∃ D, (s.data.toList.drop F).take (E - F) = D := ⟨_, rfl⟩
    rw [hDD] at HOK HSG HGR HGI HDA
    obtain ⟨vd, hvd⟩ : ∃ b, decide (valD D <= 9007199254740991) = b := ⟨_, rfl⟩
    have HVD : Hid (decide (9007199254740991 < valD D) = !vd) := by
     unfold Hid
     rw [<- hvd]
     by_cases h : valD D <= 9007199254740991
     ·rw [decide_eq_true h, decide_eq_false (by omega)]; rfl
     ·rw [decide_eq_false h, decide_eq_true (by omega)]; rfl
    rw [hvd] at HOK
    rw [HVD.out] at HGR
    obtain ⟨st, hst⟩ : ∃ b, stopAt s.data.toList E = b := ⟨_, rfl⟩
    rw [hst] at HOK
    have HSTP := Lib.hid hst
    obtain ⟨t1, ht1⟩ : ∃ b, ((decide (E = F) || (decide (s.data.toList[F]? = some 48) && decide (1 < E - F))) || !vd) = b := ⟨_, rfl⟩
    have HOK2 : Hid (rdOk (s.data.toList.drop m) = (!t1 && !st)) := by
     unfold Hid
     rw [HOK.out, <- ht1]
     cases (decide (E = F) || (decide (s.data.toList[F]? = some 48) && decide (1 < E - F))) <;> cases vd <;> cases st <;> rfl
    have HTT := Lib.hid ht1
    have HN9 : Hid (0 <= n /\ n <= 9007199254740999) := ⟨hn0, hn1⟩
    clear ht1 hst hvd hDD HOK HDA HG hmb HSE hFk hk hkE hkE' hn0 hn1 HD hH
    obtain ⟨ng, hng⟩ : ∃ b, decide ((9007199254740991 : Int) < n) = b := ⟨_, rfl⟩
    rw [hng] at HGR
    go_upto_region 15 with fail
    go_cut [73] from 52 to 73 (fun v wr => v = .bool t1 /\ wr = w)
    case first =>
     obtain ⟨e1, he1⟩ : ∃ b, ((E : Int) == (F : Int)) = b := ⟨_, rfl⟩
     have HE1 : Hid (decide (E = F) = e1) := by
      unfold Hid
      rw [<- he1]
      by_cases h : E = F
      ·rw [decide_eq_true h, h]; simp
      ·rw [decide_eq_false h]; simp; omega
     cases e1
     ·have hlt : F < E := by have := of_decide_eq_false HE1.out; omega
      have hFlt : F < s.size := by omega
      have hFlt' : (F : Int) < (s.size : Int) := by omega
      obtain ⟨c1, hc1⟩ : ∃ c, s[F] = c := ⟨_, rfl⟩
      have hg1 := HGE.out F hFlt
      rw [hc1] at hg1
      obtain ⟨e2, he2⟩ : ∃ b, (((c1.toNat : Nat) : Int) == 48) = b := ⟨_, rfl⟩
      have HE2 : Hid (decide (s.data.toList[F]? = some 48) = e2) := by
       unfold Hid
       rw [hg1, <- he2]
       by_cases h : c1 = 48
       ·rw [h]; rfl
       ·have h2 : ¬ c1.toNat = 48 := fun e => h (UInt8.toNat_inj.1 e)
        rw [decide_eq_false (fun e => h (Option.some.inj e))]
        simp
        omega
      clear hg1
      obtain ⟨e3, he3⟩ : ∃ b, decide ((1 : Int) < (E : Int) - (F : Int)) = b := ⟨_, rfl⟩
      have HE3 : Hid (decide (1 < E - F) = e3) := by
       unfold Hid
       rw [<- he3]
       congr 1
       simp
       omega
      have HT2 : Hid (t1 = ((e2 && e3) || (g || ng))) := by
       unfold Hid
       rw [<- HTT.out, HE1.out, HE2.out, HE3.out, HGR.out]
       rfl
      cases e2 <;> cases e3 <;> cases g <;> cases ng
      all_goals
       go_wp2_with fail
       go_meet
       exact ⟨by rw [HT2.out]; rfl, rfl⟩
     ·have HT2 : Hid (t1 = true) := by
       unfold Hid
       rw [<- HTT.out, HE1.out]
       rfl
      go_wp2_with fail
      go_meet
      exact ⟨by rw [HT2.out], rfl⟩
    case rest =>
    obtain ⟨rfl, hwc⟩ := hcut
    obtain rfl : w = wc := hwc.symm
    cases t1
    ·have hv : vd = true /\ g = false := by
      have h1 := HTT.out
      have h2 := HGR.out
      cases vd
      ·simp at h1
      ·cases g
       ·exact ⟨rfl, rfl⟩
       ·simp at h2
     obtain ⟨rfl, rfl⟩ := hv
     have HNV : Hid (valD D = n) := (HGI.out rfl).symm
     rw [HNV.out] at HSG
     clear HGI HNV HTT HGR hng
     go_upto_region 17 with fail
     go_cut [96] from 75 to 96 (fun v wr => v = .bool st /\ wr = w)
     case first =>
      by_cases b4 : E < s.size
      ·have i4 : decide ((E : Int) < (s.size : Int)) = true := decide_eq_true (by omega)
       have b4' : (E : Int) < (s.size : Int) := by omega
       obtain ⟨c2, hc2⟩ : ∃ c, s[E] = c := ⟨_, rfl⟩
       have hg2 := HGE.out E b4
       rw [hc2] at hg2
       have HG2 := Lib.hid hg2
       clear hg2
       obtain ⟨e5, he5⟩ : ∃ b, (((c2.toNat : Nat) : Int) == 46) = b := ⟨_, rfl⟩
       obtain ⟨e6, he6⟩ : ∃ b, (((c2.toNat : Nat) : Int) == 101) = b := ⟨_, rfl⟩
       obtain ⟨e7, he7⟩ : ∃ b, (((c2.toNat : Nat) : Int) == 69) = b := ⟨_, rfl⟩
       have hdn : ∀ k : Nat, (((c2.toNat : Nat) : Int) == (k : Int)) = decide (c2.toNat = k) := fun k => by
        by_cases h : c2.toNat = k
        ·rw [decide_eq_true h, h]; simp
        ·rw [decide_eq_false h]; simp; omega
       have HST : Hid (st = (e5 || (e6 || e7))) := by
        unfold Hid
        rw [<- HSTP.out, stopAt_some HG2.out, <- he5, <- he6, <- he7]
        rw [stopC_eq, <- hdn 46, <- hdn 101, <- hdn 69]
        rfl
       clear hdn
       cases e5 <;> cases e6 <;> cases e7
       all_goals
        go_wp2_with fail
        go_meet
        exact ⟨by rw [HST.out]; rfl, rfl⟩
      ·have i4 : decide ((E : Int) < (s.size : Int)) = false := decide_eq_false (by omega)
       have b4' : ¬ (E : Int) < (s.size : Int) := by omega
       have HST : Hid (st = false) := by
        unfold Hid
        rw [<- HSTP.out, stopAt_none (HNG.out E (by omega))]
       go_wp2_with fail
       go_meet
       exact ⟨by rw [HST.out], rfl⟩
     case rest =>
     obtain ⟨rfl, hwc⟩ := hcut
     obtain rfl : w = wc := hwc.symm
     cases st
     ·have HRR : Hid (R = .tuple #[.int .i64 (signN (s.data.toList.drop m)), .int .i64 (E : Nat), .int .i64 0]) := by
       unfold Hid
       rw [<- HR.out, readRet_yes HOK2.out, HEN.out]
      rw [HSG.out] at HRR
      have hmb : (((c.toNat : Nat) : Int) == 45) = mb := by
       rw [HMB.out]
       by_cases h : c.toNat = 45
       ·rw [decide_eq_true h, h]; rfl
       ·rw [decide_eq_false h]; simp; omega
      have HFm : Hid (decide (F = m) = !mb) := by
       unfold Hid
       rw [HMB.out]
       have h := HFR.out
       by_cases hc : c.toNat = 45
       ·rw [if_pos hc] at h; rw [decide_eq_true hc, decide_eq_false (by omega)]; rfl
       ·rw [if_neg hc] at h; rw [decide_eq_false hc, decide_eq_true h]; rfl
      have hn0 := HN9.out.1
      have hn1 := HN9.out.2
      cases mb
      ·have HRR2 : Hid (R = .tuple #[.int .i64 n, .int .i64 (E : Nat), .int .i64 0]) := by
        unfold Hid
        rw [HRR.out, if_pos (of_decide_eq_true HFm.out)]
       go_wp2_with fail
       rw [HRR2.out]
       refine bodyPost_ret (v := .tuple #[.int .i64 n, .int .i64 (E : Nat), .int .i64 0]) (by simp [results, Tryz.results128, go_sem]) rfl ⟨rfl, rfl⟩
      ·have HRR2 : Hid (R = .tuple #[.int .i64 (0 - n), .int .i64 (E : Nat), .int .i64 0]) := by
        unfold Hid
        rw [HRR.out, if_neg (of_decide_eq_false HFm.out)]
       go_wp2_with fail
       rw [HRR2.out]
       rw [show (0 : Int) - n = -n by omega]
       refine bodyPost_ret (v := .tuple #[.int .i64 (-n), .int .i64 (E : Nat), .int .i64 0]) (by simp [results, Tryz.results128, go_sem]) rfl ⟨rfl, rfl⟩
     ·have HRR : Hid (R = .tuple #[.int .i64 0, .int .i64 m, .int .i64 30]) := by
       unfold Hid
       rw [<- HR.out]
       exact readRet_no (by rw [HOK2.out]; rfl)
      go_wp2_with fail
      rw [HRR.out]
      refine bodyPost_ret (v := .tuple #[.int .i64 0, .int .i64 m, .int .i64 30]) (by simp [results, Tryz.results128, go_sem]) rfl ⟨rfl, rfl⟩
    ·have HRR : Hid (R = .tuple #[.int .i64 0, .int .i64 m, .int .i64 30]) := by
      unfold Hid
      rw [<- HR.out]
      exact readRet_no (by rw [HOK2.out]; rfl)
     go_wp2_with fail
     rw [HRR.out]
     refine bodyPost_ret (v := .tuple #[.int .i64 0, .int .i64 m, .int .i64 30]) (by simp [results, Tryz.results128, go_sem]) rfl ⟨rfl, rfl⟩
   ·have hkl : k < E := of_decide_eq_true HD.out
    have hks : k < s.size := by omega
    have k1 : (k : Int) < (s.size : Int) := by omega
    have hg := HGE.out k hks
    obtain ⟨b, hb⟩ : ∃ c, s[k] = c := ⟨_, rfl⟩
    rw [hb] at hg
    have hdb : digU b = true := by
     cases hdb : digU b with
     | true => rfl
     | false =>
       have h1 := spanE_stop hg hdb
       rw [hH.out] at h1
       omega
    have HSN : Hid (spanE s.data.toList (k + 1) = E) := (spanE_step hg hdb).trans hH.out
    have HTS : Hid (gfold ((s.data.toList.drop F).take (k + 1 - F)) = gstep (n, g) b) := by
     unfold Hid
     rw [dropTake_snoc hFk hg, gfold_snoc, HG.out]
    unfold digU at hdb
    rw [Bool.and_eq_true, decide_eq_true_eq, decide_eq_true_eq] at hdb
    have HDB := Lib.hid hdb
    clear hg hdb
    by_cases hgr : 900719925474099 < n
    ·have hgd : decide ((900719925474099 : Int) < n) = true := decide_eq_true hgr
     have HTS2 : Hid (gfold ((s.data.toList.drop F).take (k + 1 - F)) = (n, true)) := by
      unfold Hid
      rw [HTS.out]
      unfold gstep
      cases g
      ·rw [if_neg (by simp), if_pos hgr]
      ·rfl
     go_wp2_with fail
     go_round
     case rel => exact ⟨k + 1, by omega, by omega, by go_num, by rw [HTS2.out], by rw [HTS2.out], HSN.out⟩
     case measure => simp [intOf]; omega
    ·have hgd : decide ((900719925474099 : Int) < n) = false := decide_eq_false hgr
     cases g
     ·have HTS2 : Hid (gfold ((s.data.toList.drop F).take (k + 1 - F)) = (stepD n b, false)) := by
       unfold Hid
       rw [HTS.out]
       unfold gstep
       rw [if_neg (by simp), if_neg hgr]
      have HST : Hid (wrap64 (wrap64 (n * 10 + wrap64 ((b.toNat : Nat) : Int)) - 48) = stepD n b) := by
       unfold Hid
       have h3 := HDB.out
       unfold stepD wrap64
       omega
      go_wp2_with fail
      go_round
      case rel => exact ⟨k + 1, by omega, by omega, by go_num, by rw [HTS2.out]; exact congrArg (Value.int IntKind.i64) HST.out, by rw [HTS2.out], HSN.out⟩
      case measure => simp [intOf]; omega
     ·have HTS2 : Hid (gfold ((s.data.toList.drop F).take (k + 1 - F)) = (n, true)) := by
       unfold Hid
       rw [HTS.out]
       rfl
      go_wp2_with fail
      go_round
      case rel => exact ⟨k + 1, by omega, by omega, by go_num, by rw [HTS2.out], by rw [HTS2.out], HSN.out⟩
      case measure => simp [intOf]; omega
 ·obtain rfl : m = s.size := by omega
  have q2 : decide ((s.size : Int) <= (s.size : Int)) = true := decide_eq_true (by omega)
  have hd : s.data.toList.drop s.size = [] := List.drop_eq_nil_of_le (by omega)
  rw [readRet_no (by rw [hd]; exact rdOk_nil)]
  clear hd hsz
  go_enter Tryz.func128, Tryz.ntmps128
  go_wp2_with fail
  refine bodyPost_ret (v := .tuple #[.int .i64 0, .int .i64 (s.size : Nat), .int .i64 30]) (by simp [results, Tryz.results128, go_sem]) rfl ⟨rfl, rfl⟩
theorem put3_nn (N : Nat) : ∀ (n : Int) (w : World), 0 <= n -> n.toNat <= N -> (Lit.int .i64 n).wf = true -> Calls Tryz.prog 87 #[.int .i64 n] w (Put3Ret w n) := by
 induction N with
 | zero => intro n w h0 h1 _; exact put3_low n h0 (by omega) w
 | succ N ih =>
   intro n w h0 h1 hw
   by_cases h10 : n < 10
   ·exact put3_low n h0 h10 w
   ·have hbn := bounds_i64 hw
    refine put3_pos n hw (by omega) (fun W => ih _ W (by omega) (by omega) ?_) w
    simp [Lit.wf, IntKind.min, IntKind.max, IntKind.signed, IntKind.bits]
    omega
theorem state10_any (card : Bool) (n : Int) (w : World) (hn : (Lit.int .i64 n).wf = true) : Calls Tryz.prog 44 #[.int .i64 (kindI card), .int .i64 n] w fun e w' => e = .returned (.string (stateB card n)) /\ Below w.heap.size w w' := by
 unfold stateB safeN
 by_cases h0 : 0 <= n
 ·by_cases h1 : n <= 9007199254740991
  ·have HPX : Hid (∀ W, Calls Tryz.prog 87 #[.int .i64 n] W fun e w' => e = .returned (.string (toB (numL n))) /\ Below W.heap.size W w') := fun W => put3_nn _ n W h0 (Nat.le_refl _) hn
   have HX : Hid (∀ c : UInt8, toB (c :: numL n) = ⟨#[c]⟩ ++ toB (numL n)) := fun c => by
    have h : toB (c :: numL n) = toB [c] ++ toB (numL n) := by rw [toB_app]; rfl
    exact h
   have hXs : (toB (numL n)).size <= 20 := by rw [toB_size]; exact numL_len hn
   obtain ⟨X, hX⟩ : ∃ X, toB (numL n) = X := ⟨_, rfl⟩
   rw [hX] at hXs HPX
   have HX : Hid (∀ c : UInt8, toB (c :: numL n) = ⟨#[c]⟩ ++ X) := fun c => by rw [HX.out, hX]
   have g0 : decide (0 <= n) = true := decide_eq_true h0
   have g1 : decide (n <= 9007199254740991) = true := decide_eq_true h1
   have q0 : decide (n < 0) = false := decide_eq_false (by omega)
   have q1 : decide ((9007199254740991 : Int) < n) = false := decide_eq_false (by omega)
   rw [g0, g1]
   simp only [Bool.and_true, if_true]
   rw [HX.out]
   have hz1 : 1 + X.size <= 21 := by omega
   have hz2 : ¬ (281474976710656 < 1 + X.size) := by omega
   clear hX g0 g1 HX h0 h1
   cases card
   ·show Calls Tryz.prog 44 #[.int .i64 2, .int .i64 n] w _
    go_enter Tryz.func44, Tryz.ntmps44
    go_wp2_with (go_at_call 87; refine (HPX.out _).mono ?_; rintro e w1 ⟨rfl, hb1⟩)
    go_ret
    exact ⟨rfl, hb1⟩
   ·show Calls Tryz.prog 44 #[.int .i64 1, .int .i64 n] w _
    go_enter Tryz.func44, Tryz.ntmps44
    go_wp2_with (go_at_call 87; refine (HPX.out _).mono ?_; rintro e w1 ⟨rfl, hb1⟩)
    go_ret
    exact ⟨rfl, hb1⟩
  ·have g1 : (decide (0 <= n) && decide (n <= 9007199254740991)) = false := by rw [decide_eq_false h1]; simp
   have q0 : decide (n < 0) = false := decide_eq_false (by omega)
   have q1 : decide ((9007199254740991 : Int) < n) = true := decide_eq_true (by omega)
   rw [g1]
   clear g1 h0 h1
   cases card
   ·show Calls Tryz.prog 44 #[.int .i64 2, .int .i64 n] w _
    go_enter Tryz.func44, Tryz.ntmps44
    go_wp2_with fail
    go_ret
    exact ⟨rfl, Below.refl _ _⟩
   ·show Calls Tryz.prog 44 #[.int .i64 1, .int .i64 n] w _
    go_enter Tryz.func44, Tryz.ntmps44
    go_wp2_with fail
    go_ret
    exact ⟨rfl, Below.refl _ _⟩
 ·have g1 : (decide (0 <= n) && decide (n <= 9007199254740991)) = false := by rw [decide_eq_false h0]; simp
  have q0 : decide (n < 0) = true := decide_eq_true (by omega)
  rw [g1]
  clear g1 h0
  cases card
  ·show Calls Tryz.prog 44 #[.int .i64 2, .int .i64 n] w _
   go_enter Tryz.func44, Tryz.ntmps44
   go_wp2_with fail
   go_ret
   exact ⟨rfl, Below.refl _ _⟩
  ·show Calls Tryz.prog 44 #[.int .i64 1, .int .i64 n] w _
   go_enter Tryz.func44, Tryz.ntmps44
   go_wp2_with fail
   go_ret
   exact ⟨rfl, Below.refl _ _⟩
end
section
open Go Go.Shelf
def lays137_ren : Go.Shelf.Ren := ⟨fun | 137 => 107 | 217 => 132 | 266 => 169 | n => n, fun | 9 => 9 | 5 => 5 | 3 => 3 | n => n, fun | n => n⟩
theorem lays137 : Go.Proofs.Lays.n137 Tryz.prog lays137_ren := {
 mixed := by kernel_rfl
 f137 := Tryz.func107.trans (congrArg some (by kernel_rfl))
 f217 := Tryz.func132.trans (congrArg some (by kernel_rfl))
 f266 := Tryz.func169.trans (congrArg some (by kernel_rfl))
 t3 := Tryz.underlying3
 a3 := Tryz.isAgg3
 z3 := Tryz.sizeOf3
 v3 := Tryz.zeroValue3
 t5 := Tryz.underlying5
 a5 := Tryz.isAgg5
 z5 := Tryz.sizeOf5
 v5 := Tryz.zeroValue5
 t9 := Tryz.underlying9
 a9 := Tryz.isAgg9
 z9 := Tryz.sizeOf9
 v9 := Tryz.zeroValue9 }
open Go.RowKit in
theorem strings_IndexByte (s : ByteArray) (c : Int) (w : World) :
 Calls Tryz.prog 107 #[.string s, .int .u8 c] w fun e w' => e = .returned (.int .i64 (Lib.indexByte s.data.toList c.toNat.toUInt8)) /\ w' = w := Any.strings_IndexByte lays137 s c w
def lays99_ren : Go.Shelf.Ren := ⟨fun | 99 => 172 | 206 => 192 | n => n, fun | 9 => 9 | 4 => 4 | 3 => 3 | n => n, fun | n => n⟩
theorem lays99 : Go.Proofs.Lays.n99 Tryz.prog lays99_ren := {
 mixed := by kernel_rfl
 f99 := Tryz.func172.trans (congrArg some (by kernel_rfl))
 f206 := Tryz.func192.trans (congrArg some (by kernel_rfl))
 t3 := Tryz.underlying3
 a3 := Tryz.isAgg3
 z3 := Tryz.sizeOf3
 v3 := Tryz.zeroValue3
 t4 := Tryz.underlying4
 a4 := Tryz.isAgg4
 z4 := Tryz.sizeOf4
 v4 := Tryz.zeroValue4
 t9 := Tryz.underlying9
 a9 := Tryz.isAgg9
 z9 := Tryz.sizeOf9
 v9 := Tryz.zeroValue9 }
open Go.RowKit Go.Lib in
theorem strings_HasPrefix (s p : ByteArray) (w : World) :
 Calls Tryz.prog 172 #[.string s, .string p] w fun e w' => e = .returned (.bool (Lib.hasPrefix s.data.toList p.data.toList)) /\ w' = w := Any.strings_HasPrefix lays99 s p w
end
section
open Go Go.RowKit Go.OpenShut
theorem infoTok : (Tryz.prog.info? 121).map (fun i => (i.zero, i.size, i.bytes)) = some (some (.agg #[.int .i64 0, .int .i64 0, .string ByteArray.empty, .int .i64 0]), 4, 40) := by kernel_rfl
theorem slTok : SlT Tryz.prog 110 121 4 40 := SlT.mk Tryz.underlying110 infoTok rfl
def ScAt (W : World) (g : Nat) (s : ByteArray) (i : Nat) (v : Value) : Prop := W.heap[g]? = some (.cells #[.string s, .int .i64 i, v] 170 (0, 0))
theorem ScAt.lt {W : World} {g i : Nat} {s : ByteArray} {v : Value} (h : ScAt W g s i v) : g < W.heap.size := (Array.getElem?_eq_some_iff.1 h).1
theorem ScAt.cell {W : World} {g i : Nat} {s : ByteArray} {v : Value} (h : ScAt W g s i v) (j : Nat) {u : Value} (hu : [Value.string s, .int .i64 i, v][j]? = some u) : W.cell? ⟨g, j, none⟩ = some u := by
 unfold ScAt at h
 rw [cell_of_row W g j _ _ _ h, <- Array.getElem?_toList]
 exact hu
theorem ScAt.frozen {W : World} {g i : Nat} {s : ByteArray} {v : Value} (h : ScAt W g s i v) (j : Nat) : W.frozen? ⟨g, j, none⟩ = false := by
 unfold ScAt at h
 simp [World.frozen?, h]
theorem ScAt.under {W W' : World} {g i B : Nat} {s : ByteArray} {v : Value} (h : ScAt W g s i v) (hb : Below B W W') (hg : g < B) : ScAt W' g s i v := (hb.block g hg).trans h
theorem ScAt.keptR {W W' : World} {g i : Nat} {s : ByteArray} {v : Value} {row : Option Nat} (h : ScAt W g s i v) (hg : W.grownBy W' row) (hne : row ≠ some g) : ScAt W' g s i v := (hg.block g h.lt (fun e => hne e.symm)).trans h
theorem ScAt.set1 {W : World} {g i : Nat} {s : ByteArray} {v : Value} (h : ScAt W g s i v) (k : Nat) : ScAt (W.setCell ⟨g, 1, none⟩ (.int .i64 k)) g s k v := by
 unfold ScAt at h ⊢
 simp [World.setCell, Array.getElem?_modify, h]
theorem ScAt.set2 {W : World} {g i : Nat} {s : ByteArray} {v : Value} (h : ScAt W g s i v) (u : Value) : ScAt (W.setCell ⟨g, 2, none⟩ u) g s i u := by
 unfold ScAt at h ⊢
 simp [World.setCell, Array.getElem?_modify, h]
structure ScS (w W : World) (g : Nat) (s : ByteArray) (i : Nat) (l : List Tok) : Prop where
 ex : ∃ v, ScAt W g s i v /\ Own W (g + 1) 121 encTok 4 v l
 below : Below g w W
theorem lay_any (w : World) (g i k n a : Nat) (s x : ByteArray) (kd : Int) (l : List Tok) (hS : ScS w w g s i l) (hl : l.length <= 65536) :
 Calls Tryz.prog 134 #[.pointer (some ⟨g, 0, none⟩), .agg #[.int .i64 kd, .int .i64 n, .string x, .int .i64 a], .int .i64 k] w fun e w' => e = .returned (.tuple #[]) /\ ScS w w' g s k (l ++ [⟨kd, n, x, i⟩]) := by
 obtain ⟨⟨v, h1, h2⟩, h3⟩ := hS
 obtain ⟨p0, n0, c0', rfl⟩ : ∃ p n c, v = Value.slice p n c := (by obtain ⟨p, c, hv, _, _⟩ := h2.len; exact ⟨p, _, c, hv⟩)
 have hg := h1.lt
 have hA : Below w.heap.size w (w.alloc (.cells #[.int .i64 kd, .int .i64 n, .string x, .int .i64 a] 121)) := (Below.refl _ _).alloc (Nat.le_refl _) _
 have hB : (w.alloc (.cells #[.int .i64 kd, .int .i64 n, .string x, .int .i64 a] 121)).heap[w.heap.size]? = some (.cells #[.int .i64 kd, .int .i64 n, .string x, .int .i64 a] 121 (0, 0)) := heap_alloc_at rfl
 have hs1 : (w.alloc (.cells #[.int .i64 kd, .int .i64 n, .string x, .int .i64 a] 121)).heap.size = w.heap.size + 1 := by simp
 obtain ⟨W1, hW1⟩ : ∃ W1, w.alloc (.cells #[.int .i64 kd, .int .i64 n, .string x, .int .i64 a] 121) = W1 := ⟨_, rfl⟩
 rw [hW1] at hA hB hs1
 have HLT : Hid (∀ k, (Value.slice p0 n0 c0').ownBlock = some k -> g + 1 <= k /\ k < w.heap.size) := h2.lt
 have HC1 := Lib.hid (h1.under hA hg)
 have HO1 := Lib.hid (h2.below hA (Nat.le_refl _))
 have H3 := Lib.hid (h3.trans (hA.mono (Nat.le_of_lt hg)))
 have HS1 := Lib.hid hs1
 have HL : Hid (l.length <= 65536) := hl
 clear h1 h2 h3 hA hs1 hl
 go_enter Tryz.func134, Tryz.ntmps134
 go_upto_region 1 with fail
 try rw [hW1]
 clear hW1
 have c1 := HC1.out.cell 1 (u := .int .i64 i) rfl
 have t3 : W1.cell? ⟨w.heap.size, 3, none⟩ = some (.int .i64 a) := by rw [cell_of_row W1 w.heap.size 3 _ _ _ hB]; rfl
 have t4 : W1.frozen? ⟨w.heap.size, 3, none⟩ = false := by simp [World.frozen?, hB]
 have hgw : g ≠ w.heap.size := by omega
 have hgw1 : w.heap.size < W1.heap.size := by have := HS1.out; omega
 go_upto_region 2 with fail
 have hg2 := grownBy_set W1 w.heap.size 3 (.int .i64 (i : Int))
 have hB2 : (W1.setCell ⟨w.heap.size, 3, none⟩ (.int .i64 (i : Int))).heap[w.heap.size]? = some (.cells #[.int .i64 kd, .int .i64 n, .string x, .int .i64 i] 121 (0, 0)) := by simp [World.setCell, Array.getElem?_modify, hB]
 have hC2 := HC1.out.keptR hg2 (fun e => hgw (by injection e with e; exact e.symm))
 have hO2 : Own (W1.setCell ⟨w.heap.size, 3, none⟩ (.int .i64 (i : Int))) (g + 1) 121 encTok 4 (.slice p0 n0 c0') l := HO1.out.same (fun k e => hg2.block k (HO1.out.lt k e).2 (fun e2 => by have := HLT.out k e; injection e2 with e2; omega))
 have hb2 : Below g w (W1.setCell ⟨w.heap.size, 3, none⟩ (.int .i64 (i : Int))) := H3.out.grown hg2 (by omega) (fun k e => by injection e with e; omega)
 obtain ⟨W2, hW2⟩ : ∃ W2, W1.setCell ⟨w.heap.size, 3, none⟩ (.int .i64 (i : Int)) = W2 := ⟨_, rfl⟩
 rw [hW2] at hB2 hC2 hO2 hb2
 try rw [hW2]
 have hz2 : g < W2.heap.size := hC2.lt
 have hw2 : w.heap.size < W2.heap.size := by rw [<- hW2]; simpa using hgw1
 clear hW2 c1 t3 t4 hg2
 have t0 : W2.cell? ⟨w.heap.size, 0, none⟩ = some (.int .i64 kd) := by rw [cell_of_row W2 w.heap.size 0 _ _ _ hB2]; rfl
 have t1 : W2.cell? ⟨w.heap.size, 1, none⟩ = some (.int .i64 n) := by rw [cell_of_row W2 w.heap.size 1 _ _ _ hB2]; rfl
 have t2 : W2.cell? ⟨w.heap.size, 2, none⟩ = some (.string x) := by rw [cell_of_row W2 w.heap.size 2 _ _ _ hB2]; rfl
 have t3 : W2.cell? ⟨w.heap.size, 3, none⟩ = some (.int .i64 i) := by rw [cell_of_row W2 w.heap.size 3 _ _ _ hB2]; rfl
 have c2 := hC2.cell 2 (u := .slice p0 n0 c0') rfl
 have HOX : Hid (Own (W2.alloc (.cells #[.int .i64 kd, .int .i64 n, .string x, .int .i64 i] 121)) (g + 1) 121 encTok 4 (.slice p0 n0 c0') l) := hO2.below ((Below.refl _ _).alloc (Nat.le_refl _) _) (Nat.le_refl _)
 have HRX : Hid (Rd (W2.alloc (.cells #[.int .i64 kd, .int .i64 n, .string x, .int .i64 i] 121)) (W2.heap.size + 1) encTok 4 (.slice (some ⟨W2.heap.size, 0, none⟩) 1 1) [(⟨kd, n, x, i⟩ : Tok)]) := Rd.one codecTok (heap_alloc_at rfl) rfl (by omega)
 have HCX : Hid (ScAt (W2.alloc (.cells #[.int .i64 kd, .int .i64 n, .string x, .int .i64 i] 121)) g s i (.slice p0 n0 c0')) := hC2.under ((Below.refl _ _).alloc (Nat.le_refl _) _) hz2
 have HBX : Hid (Below g w (W2.alloc (.cells #[.int .i64 kd, .int .i64 n, .string x, .int .i64 i] 121))) := hb2.alloc (by omega) _
 have HW2 : Hid (w.heap.size < W2.heap.size /\ g < w.heap.size) := ⟨hw2, hg⟩
 clear hC2 hO2 hb2 hB2
 go_region_law
  (first
   | (refine step_append_rd slTok codecTok (W2.alloc (.cells #[.int .i64 kd, .int .i64 n, .string x, .int .i64 i] 121)).drew (by rfl) (.tmp 15) (.tmp 17) (by rfl) (v := .slice p0 n0 c0') (by rfl) (by rfl) HOX.out HRX.out (by have := HL.out; simp only [List.length_singleton]; unfold maxLen; omega) (by have := HL.out; simp only [List.length_singleton]; omega) (by have := HW2.out; show g + 1 <= (W2.alloc _).heap.size; simp; omega) ?_
      intro v9 w9 ho9 hg9 hat9
      obtain ⟨p9, n9, c9, rfl⟩ : ∃ p n c, v9 = Value.slice p n c := (by obtain ⟨p, c, hv, h1, h2⟩ := ho9.len; exact ⟨p, _, c, hv⟩)
      have H9 : ScAt w9 g s i (.slice p0 n0 c0') := (hg9.block g (by have := HCX.out.lt; exact this) (fun e => by have := (HOX.out.lt _ e.symm).1; omega)).trans HCX.out
      have b2 := H9.cell 2 (u := .slice p0 n0 c0') rfl
      have bf := H9.frozen 2
      have b1 := H9.cell 1 (u := .int .i64 i) rfl
      have bf1 := H9.frozen 1)
   | fail)
 all_goals
  have HB9 : Below g w w9 := (show Below g w (W2.alloc (.cells #[.int .i64 kd, .int .i64 n, .string x, .int .i64 i] 121)).drew from HBX.out.drew).grown hg9 (by have := HW2.out; show g <= (W2.alloc _).heap.size; simp; omega) (fun k e => by have := (HOX.out.lt k e).1; omega)
  have HN9 := H9.set2 (.slice p9 n9 c9)
  have HN10 := HN9.set1 k
  have hg10 := (grownBy_set w9 g 2 (.slice p9 n9 c9)).trans (grownBy_set _ g 1 (.int .i64 (k : Int)))
  have ho10 := ho9.same (w' := (w9.setCell ⟨g, 2, none⟩ (.slice p9 n9 c9)).setCell ⟨g, 1, none⟩ (.int .i64 (k : Int))) (fun j e => hg10.block j (ho9.lt j e).2 (fun e2 => by have := (ho9.lt j e).1; injection e2 with e2; omega))
  have hb10 := HB9.grown hg10 (by have := H9.lt; omega) (fun j e => by injection e with e; omega)
  go_wp2_with fail
  go_end0
  exact ⟨rfl, ⟨⟨_, HN10, ho10⟩, hb10⟩⟩
theorem index_ge : ∀ (l : List UInt8) (c : UInt8), decide (0 <= Lib.indexByte l c) = l.any (fun b => decide (b = c))
 | [], c => by simp [Lib.indexByte]
 | b :: l, c => by
   have ih := index_ge l c
   unfold Lib.indexByte
   rw [List.any_cons]
   by_cases h : b = c
   ·simp [h]
   ·have h2 : (b == c) = false := by simpa using h
    rw [h2, if_neg (by decide), decide_eq_false h, Bool.false_or, <- ih]
    by_cases h3 : Lib.indexByte l c = -1
    ·simp [h3]
    ·have h4 : (Lib.indexByte l c == -1) = false := by simpa using h3
     rw [h4, if_neg (by decide)]
     have h5 : -1 <= Lib.indexByte l c := index_min l c
     by_cases h6 : 0 <= Lib.indexByte l c
     ·rw [decide_eq_true h6, decide_eq_true (by omega)]
     ·omega
where index_min : ∀ (l : List UInt8) (c : UInt8), -1 <= Lib.indexByte l c
 | [], c => by simp [Lib.indexByte]
 | b :: l, c => by
   have ih := index_min l c
   unfold Lib.indexByte
   split
   ·omega
   ·split
    ·omega
    ·omega
theorem u8_eq (b c : UInt8) : (b = c) = (c.toNat = b.toNat) := by
 apply propext
 constructor
 ·intro h; rw [h]
 ·intro h; exact (UInt8.toNat_inj.1 h).symm
theorem sp_index (c : UInt8) : decide (0 <= Lib.indexByte [32, 9, 10, 13] c) = spCh c := by
 rw [index_ge]
 simp only [List.any_cons, List.any_nil, Bool.or_false, u8_eq, spCh]
 simp only [Bool.or_assoc]
 rfl
theorem mk_index (c : UInt8) : decide (0 <= Lib.indexByte [123, 125, 91, 93, 58, 44] c) = mkCh c := by
 rw [index_ge]
 simp only [List.any_cons, List.any_nil, Bool.or_false, u8_eq, mkCh]
 simp only [Bool.or_assoc]
 rfl
end
end Go.Proofs.YtfgjimpmpckgpaaGreatDoor
