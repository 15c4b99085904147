import Derived.Test.YtfgjimpmpckgpaaGreatDoorSg18
import Derived.Deep.Cut
import Derived.Deep.CutRange
import Derived.Test.YtfgjimpmpckgpaaGreatDoorSg09
import Derived.Test.YtfgjimpmpckgpaaGreatDoorSg13
set_option linter.unusedSimpArgs false
set_option linter.unusedVariables false
set_option maxRecDepth 200000
set_option maxHeartbeats 8000000
namespace Go.Proofs.YtfgjimpmpckgpaaGreatDoor
section
open Go.Shelf Go.RowKit Go.Lib Go.Sort
namespace SP
variable {P : Program} {α : Type} [Inhabited α]
def SymPre (cf : α -> α -> Int) (lt : α -> α -> Bool) (d : Array α) (a m b : Nat) : Prop :=
 SortedIn lt a m d /\ SortedIn lt m b d /\ ∀ i j, a <= i -> i < m -> m <= j -> j < b -> ltOf cf d[j]! d[i]! = lt d[j]! d[i]!
theorem rot_triv (d : Array α) (s m e t : Nat) (h : s = m \/ m = e) (hs : s <= m) (he : m <= e) : d[t]! = rotG d s m e t := by
 unfold rotG
 rcases h with rfl | rfl
 ·by_cases h1 : s <= t /\ t < s + (e - s)
  ·rw [if_pos h1, Nat.sub_self, Nat.add_zero]
  ·rw [if_neg h1, if_neg (by omega)]
 ·rw [if_neg (by omega), Nat.sub_self]
  by_cases h1 : s + 0 <= t /\ t < m
  ·rw [if_pos h1, Nat.sub_zero]
  ·rw [if_neg h1]
theorem sym_main (k : Nat) (L : Lays P k) (enc : α -> List Value) (cf : α -> α -> Int) (lt : α -> α -> Bool) (Sw : SWO lt) (g : Nat) (cb : Array Value) (blk off cap a m b : Nat) (d0 d : Array α) (w0 w : World)
 (eg : ∀ args w, (callFunc g args).run P w = .ok (.enter g args) w) (hcmp : CmpLays P g cb enc k cf blk off d0.size w0)
 (R : RowK enc k w0 blk off d0) (hs : d0.size = d.size) (S : SWK enc k w0 blk off d w) (ham : a + 1 < m) (hmb : m + 1 < b) (hb : b <= d.size) (hsz : d.size < 4611686018427387904)
 (hpre : SymPre cf lt d a m b)
 (ih : ∀ (a' m' b' : Nat) (d' : Array α) (w' : World), b' - a' < b - a -> d0.size = d'.size -> SWK enc k w0 blk off d' w' -> a' < m' -> m' < b' -> b' <= d'.size -> SymPre cf lt d' a' m' b' ->
  Calls P 180 #[.slice (some ⟨blk, off, none⟩) d'.size cap, .int .i64 a', .int .i64 m', .int .i64 b', .func (.func g) #[] cb] w' (SymPost enc k w0 blk off lt d' a' b')) :
 Calls P 180 #[.slice (some ⟨blk, off, none⟩) d.size cap, .int .i64 a, .int .i64 m, .int .i64 b, .func (.func g) #[] cb] w (SymPost enc k w0 blk off lt d a b) := by
 have mixed := L.mixed; have aE := L.aE; have zE := L.zE; have t0 := L.t0; have a0 := L.a0; have z0 := L.z0; have v0 := L.v0; have t3 := L.t3; have a3 := L.a3; have z3 := L.z3; have v3 := L.v3; have t4 := L.t4; have a4 := L.a4; have z4 := L.z4; have v4 := L.v4; have tu := L.tu; have au := L.au; have zu := L.zu; have vu := L.vu; have tS := L.tS; have aS := L.aS; have zS := L.zS; have vS := L.vS; have tC := L.tC; have aC := L.aC; have zC := L.zC; have vC := L.vC
 have FG := L.fSym
 have eRot : ∀ args w, (callFunc 198 args).run P w = .ok (.enter 198 args) w := enters_of L.fRot (by kernel_rfl) rfl
 have eSym : ∀ args w, (callFunc 180 args).run P w = .ok (.enter 180 args) w := enters_of L.fSym (by kernel_rfl) rfl
 have S0 : Aside (SWK enc k w0 blk off d w) := S
 have HC : Aside _ := hcmp
 have HIH : Aside _ := ih
 have HSW := Lib.hid Sw
 have HP := Lib.hid hpre
 clear S hcmp Sw hpre ih
 have hone : ((m : Int) - (a : Int) == 1) = false := by rw [beq_eq_false_iff_ne]; omega
 have hone2 : ((b : Int) - (m : Int) == 1) = false := by rw [beq_eq_false_iff_ne]; omega
 obtain ⟨mid, hmid⟩ : ∃ mid, (a + b) / 2 = mid := ⟨_, rfl⟩
 have hmid1 : a < mid /\ mid < b := by omega
 have emid : ((a : Int) + (b : Int)) / 2 = (mid : Int) := by omega
 have emid2 : 2 * mid <= a + b /\ a + b <= 2 * mid + 1 := by omega
 have HMID := Lib.hid hmid
 clear hmid
 go_enter FG, Tryz.ntmps180
 go_upto_if 140 with (fail)
 go_cut [20, 21] from 138 to 146 (fun s20 s21 wr => ∃ s0 r0 : Nat, s20 = .int .i64 s0 /\ s21 = .int .i64 r0 /\ a <= s0 /\ s0 <= r0 /\ r0 <= m /\ r0 <= mid /\ mid + m <= b + s0 /\ (s0 = a \/ s0 + b = mid + m) /\ (r0 = m \/ r0 = mid) /\ Aside (SWK enc k w0 blk off d wr))
 case first =>
  by_cases hmm : mid < m
  ·have hmz : (mid : Int) < (m : Int) := by omega
   have eS : ((mid + m - b : Nat) : Int) = (mid : Int) + (m : Int) - (b : Int) := by omega
   have ES := Lib.hid eS
   clear eS
   go_wp2_with fail
   go_meet
   exact ⟨mid + m - b, mid, by rw [ES.out], rfl, by omega, by omega, by omega, by omega, by omega, .inr (by omega), .inr rfl, S0⟩
  ·have hmz : ¬ (mid : Int) < (m : Int) := by omega
   go_wp2_with fail
   go_meet
   exact ⟨a, m, rfl, rfl, Nat.le_refl _, by omega, by omega, by omega, by omega, .inl rfl, .inl rfl, S0⟩
 case rest =>
 obtain ⟨s0, r0, rfl, rfl, q1, q2, q3, q4, q5, q6, q7, S1⟩ := hcut
 clear S0
 go_wp2_with fail
 go_loopg [20, 21] (r0 - s0) (fun kx s20 s21 wr => ∃ (st r : Nat), s20 = .int .i64 st /\ s21 = .int .i64 r /\ s0 <= st /\ st <= r /\ r <= r0 /\ r - st <= kx /\ Aside (SWK enc k w0 blk off d wr) /\ Hid (s0 < st -> lt d[mid + m - st]! d[st - 1]! = false) /\ Hid (r < r0 -> lt d[mid + m - r - 1]! d[r]! = true))
 case atStart => exact ⟨s0, r0, rfl, rfl, Nat.le_refl _, q2, Nat.le_refl _, by omega, S1, fun h => by omega, fun h => by omega⟩
 case round =>
  clear S1
  obtain ⟨st, r, rfl, rfl, hi1, hij, hjb, hkx, S1, HA, HB⟩ := hrel
  by_cases hlt : st < r
  ·have hltz : (st : Int) < (r : Int) := by omega
   obtain ⟨c, hc⟩ : ∃ c, (st + r) / 2 = c := ⟨_, rfl⟩
   have ecc : ((st : Int) + (r : Int)) / 2 = (c : Int) := by omega
   have hh : st <= c /\ c < r := by omega
   clear hc
   have bc : (c : Int) < (d.size : Int) := by omega
   have pc : (0 : Int) <= (c : Int) := by omega
   obtain ⟨pp, hpp⟩ : ∃ pp, mid + m - 1 - c = pp := ⟨_, rfl⟩
   have ew : (mid : Int) + (m : Int) - 1 - (c : Int) = (pp : Int) := by omega
   have rp : IntKind.i64.wrap (pp : Int) = (pp : Int) := by rw [IntKind.wrap_i64]; omega
   have bp : (pp : Int) < (d.size : Int) := by omega
   have pz : (0 : Int) <= (pp : Int) := by omega
   have hpp2 : m <= pp /\ pp < b := by omega
   have HPP := Lib.hid hpp
   clear hpp
   obtain ⟨xc, hxc⟩ : ∃ x, d[c]! = x := ⟨_, rfl⟩
   obtain ⟨xp, hxp⟩ : ∃ x, d[pp]! = x := ⟨_, rfl⟩
   have hcr : ltOf cf xp xc = lt xp xc := by rw [<- hxc, <- hxp]; exact HP.out.2.2 c _ (by omega) (by omega) (by omega) (by omega)
   have lc := S1.out.ld R hs.symm P c (by omega)
   have lp := S1.out.ld R hs.symm P pp (by omega)
   rw [hxc] at lc
   rw [hxp] at lp
   have hcg := S1.out.cmp HC.out hs.symm xp xc
   have GR : Aside (∀ n os, SWK enc k w0 blk off d (grow (wr.drewN n) os)) := fun n os => S1.out.grown n os
   have HXC := Lib.hid hxc
   have HXP := Lib.hid hxp
   have HCR := Lib.hid hcr
   clear hxc hxp hcr S1
   by_cases hlv : cf xp xc < 0
   ·have HB' : Hid (c < r0 -> lt d[mid + m - c - 1]! d[c]! = true) := fun _ => by
     rw [show mid + m - c - 1 = pp by have := HPP.out; omega, HXC.out, HXP.out, <- HCR.out]; exact decide_eq_true hlv
    go_wp2_with fail
    go_quiet_grown (first | (go_at_fn g; refine Calls.grown_of (hcg _ _)))
    go_wp2_with fail
    go_roundg (c - st)
    case measure => omega
    case rel => exact ⟨st, c, rfl, rfl, by omega, by omega, by omega, by omega, GR.out nq osq, HA, HB'⟩
   ·have HA' : Hid (s0 < c + 1 -> lt d[mid + m - (c + 1)]! d[c + 1 - 1]! = false) := fun _ => by
     rw [show mid + m - (c + 1) = pp by have := HPP.out; omega, Nat.add_sub_cancel, HXC.out, HXP.out, <- HCR.out]; exact decide_eq_false hlv
    have hlv2 : decide (cf xp xc < 0) = false := decide_eq_false hlv
    have hlv3 : 0 <= cf xp xc := by omega
    go_wp2_with fail
    go_quiet_grown (first | (go_at_fn g; refine Calls.grown_of (hcg _ _)))
    go_wp2_with fail
    go_roundg (r - (c + 1))
    case measure => omega
    case rel => exact ⟨c + 1, r, by first | rfl | go_num, rfl, by omega, by omega, by omega, by omega, GR.out nq osq, HA', HB⟩
  ·obtain rfl : st = r := by omega
   have hltz : ¬ (st : Int) < (st : Int) := by omega
   obtain ⟨e, he⟩ : ∃ e, mid + m - st = e := ⟨_, rfl⟩
   have eE : (mid : Int) + (m : Int) - (st : Int) = (e : Int) := by omega
   have he1 : st + e = mid + m := by omega
   have he2 : m <= e /\ e <= b := by omega
   rw [he] at HA HB
   clear he
   go_upto_region 39 with (fail)
   go_cut [185] from 178 to 184 (fun s wr' => s = .bool (decide (st < m /\ m < e)) /\ Aside (SWK enc k w0 blk off d wr'))
   case first =>
    by_cases hr1 : st < m
    ·have hz1 : (st : Int) < (m : Int) := by omega
     by_cases hr2 : m < e
     ·have hz2 : (m : Int) < (e : Int) := by omega
      go_wp2_with fail
      go_meet
      exact ⟨by simp [hr1, hr2], S1⟩
     ·have hz2 : ¬ (m : Int) < (e : Int) := by omega
      go_wp2_with fail
      go_meet
      exact ⟨by simp [hr2], S1⟩
    ·have hz1 : ¬ (st : Int) < (m : Int) := by omega
     go_wp2_with fail
     go_meet
     exact ⟨by simp [hr1], S1⟩
   case rest =>
   clear S1
   obtain ⟨rfl, S1⟩ := hcut
   obtain ⟨bR, hbR⟩ : ∃ bR, decide (st < m /\ m < e) = bR := ⟨_, rfl⟩
   rw [hbR]
   have HBR := Lib.hid hbR
   clear hbR
   go_upto_if 185 with (fail)
   go_cut [24] from 178 to 191 (fun s24 wr' => s24 = .int .i64 e /\ Aside (∃ d1 : Array α, SWK enc k w0 blk off d1 wr' /\ PermIn a b d d1 /\ ∀ t, d1[t]! = rotG d st m e t))
   case first =>
    cases bR with
    | true =>
      have hr : st < m /\ m < e := of_decide_eq_true HBR.out
      have hr1 := hr.1
      have hr2 := hr.2
      clear hr
      go_wp2_with fail
      refine (rotate_any k L enc g cb blk off cap st m e d0 d _ _ R hs S1.out hr1 hr2 (by omega) hsz).mono ?_
      rintro ee w1 ⟨rfl, d1, S2, hp, hr⟩
      have HH : Aside (∃ d1 : Array α, SWK enc k w0 blk off d1 w1 /\ PermIn a b d d1 /\ ∀ t, d1[t]! = rotG d st m e t) := ⟨d1, S2, permIn_mono _ _ _ _ _ _ (by omega) (by omega) hb hp, hr⟩
      clear S2 hp hr
      go_wp2_with fail
      go_meet
      exact ⟨rfl, HH⟩
    | false =>
      have hr : ¬ (st < m /\ m < e) := of_decide_eq_false HBR.out
      have HH := fun w' (h : SWK enc k w0 blk off d w') => (show Aside (∃ d1 : Array α, SWK enc k w0 blk off d1 w' /\ PermIn a b d d1 /\ ∀ t, d1[t]! = rotG d st m e t) from ⟨d, h, permIn_refl _ _ _, fun t => rot_triv d st m e t (by omega) (by omega) (by omega)⟩)
      clear hr
      go_wp2_with fail
      go_meet
      exact ⟨rfl, HH _ S1.out⟩
   case rest =>
   obtain ⟨rfl, HD⟩ := hcut
   clear S1
   obtain ⟨d1, S1, hp1, hr1⟩ := HD.out
   have hd1 : d1.size = d.size := hp1.1
   have HPT := Lib.hid (sym_parts HP.out.1 HP.out.2.1 (by omega : a <= st) (by omega) he2.1 he2.2 he1 hr1)
   have HCX := Lib.hid (sym_cross HSW.out HP.out.1 HP.out.2.1 (by omega : a <= st) (by omega) he2.1 he2.2 he1 hr1 HA.out HB.out (by omega) (by omega) hi1 hjb)
   have HPR : Hid (SymPre cf lt d1 a st mid /\ SymPre cf lt d1 mid e b) := by
    obtain ⟨z1, z2, z3, z4⟩ := HPT.out
    have hX := HP.out.2.2
    refine ⟨⟨z1, z2, fun i j y1 y2 y3 y4 => ?_⟩, ⟨z3, z4, fun i j y1 y2 y3 y4 => ?_⟩⟩
    ·rw [hr1, hr1, rotG, rotG, if_pos (by omega), if_neg (by omega), if_neg (by omega)]
     exact hX _ _ (by omega) (by omega) (by omega) (by omega)
    ·rw [hr1, hr1, rotG, rotG, if_neg (by omega), if_neg (by omega), if_neg (by omega), if_pos (by omega)]
     exact hX _ _ (by omega) (by omega) (by omega) (by omega)
   have HP1 := Lib.hid hp1
   have S1' : Aside (SWK enc k w0 blk off d1 wc) := S1
   clear hp1 hr1 S1 HD HBR HA HB
   go_upto_region 41 with (fail)
   go_cut [199] from 192 to 198 (fun s wr' => s = .bool (decide (a < st /\ st < mid)) /\ Aside (SWK enc k w0 blk off d1 wr'))
   case first =>
    by_cases hr1 : a < st
    ·have hz1 : (a : Int) < (st : Int) := by omega
     by_cases hr2 : st < mid
     ·have hz2 : (st : Int) < (mid : Int) := by omega
      go_wp2_with fail
      go_meet
      exact ⟨by simp [hr1, hr2], S1'⟩
     ·have hz2 : ¬ (st : Int) < (mid : Int) := by omega
      go_wp2_with fail
      go_meet
      exact ⟨by simp [hr2], S1'⟩
    ·have hz1 : ¬ (a : Int) < (st : Int) := by omega
     go_wp2_with fail
     go_meet
     exact ⟨by simp [hr1], S1'⟩
   case rest =>
   clear S1'
   obtain ⟨rfl, S1⟩ := hcut
   obtain ⟨bR, hbR⟩ : ∃ bR, decide (a < st /\ st < mid) = bR := ⟨_, rfl⟩
   rw [hbR]
   have HBR := Lib.hid hbR
   clear hbR
   go_upto_if 199 with (fail)
   go_cut [24] from 192 to 205 (fun s24 wr' => s24 = .int .i64 e /\ Aside (∃ d2 : Array α, SWK enc k w0 blk off d2 wr' /\ PermIn a mid d1 d2 /\ SortedIn lt a mid d2))
   case first =>
    cases bR with
    | true =>
      have hr : a < st /\ st < mid := of_decide_eq_true HBR.out
      have hr1 := hr.1
      have hr2 := hr.2
      clear hr
      have hcall := HIH.out a st mid d1 _ (by omega) (by omega) S1.out hr1 hr2 (by omega) HPR.out.1
      rw [hd1] at hcall
      have HCALL := Lib.hid hcall
      clear hcall
      go_wp2_with fail
      refine HCALL.out.mono ?_
      rintro ee w1 ⟨rfl, d2, S2, hp, hr⟩
      have HH : Aside (∃ d2 : Array α, SWK enc k w0 blk off d2 w1 /\ PermIn a mid d1 d2 /\ SortedIn lt a mid d2) := ⟨d2, S2, hp, hr⟩
      clear S2 hp hr
      go_wp2_with fail
      go_meet
      exact ⟨rfl, HH⟩
    | false =>
      have hr : ¬ (a < st /\ st < mid) := of_decide_eq_false HBR.out
      have hsrt : SortedIn lt a mid d1 := by
       rcases Nat.lt_or_ge a st with h | h
       ·have : st = mid := by omega
        rw [<- this]; exact HPT.out.1
       ·have : a = st := by omega
        rw [this]; exact HPT.out.2.1
      have HH := fun w' (h : SWK enc k w0 blk off d1 w') => (show Aside (∃ d2 : Array α, SWK enc k w0 blk off d2 w' /\ PermIn a mid d1 d2 /\ SortedIn lt a mid d2) from ⟨d1, h, permIn_refl _ _ _, hsrt⟩)
      clear hr hsrt
      go_wp2_with fail
      go_meet
      exact ⟨rfl, HH _ S1.out⟩
   case rest =>
   obtain ⟨rfl, HD⟩ := hcut
   clear S1 HBR
   obtain ⟨d2, S2, hp2, hs2⟩ := HD.out
   have hd2 : d2.size = d.size := hp2.1.trans hd1
   have HPR2 : Hid (SymPre cf lt d2 mid e b) := by
    obtain ⟨z3, z4, hX⟩ := HPR.out.2
    refine ⟨fun i j y1 y2 y3 => ?_, fun i j y1 y2 y3 => ?_, fun i j y1 y2 y3 y4 => ?_⟩
    ·rw [perm_out hp2 (.inr y1), perm_out hp2 (.inr (by omega))]; exact z3 i j y1 y2 y3
    ·rw [perm_out hp2 (.inr (by omega)), perm_out hp2 (.inr (by omega))]; exact z4 i j y1 y2 y3
    ·rw [perm_out hp2 (.inr (by omega)), perm_out hp2 (.inr (by omega))]; exact hX i j y1 y2 y3 y4
   have HP2 := Lib.hid hp2
   have HS2 := Lib.hid hs2
   have S2' : Aside (SWK enc k w0 blk off d2 wc) := S2
   clear hp2 hs2 S2 HD
   have hfin : ∀ d3 w', SWK enc k w0 blk off d3 w' -> PermIn mid b d2 d3 -> SortedIn lt mid b d3 -> ∃ d' : Array α, SWK enc k w0 blk off d' w' /\ PermIn a b d d' /\ SortedIn lt a b d' := fun d3 w' hs3 hp3 ho3 => by
    obtain ⟨f1, f2⟩ := sym_whole (by omega) (by omega) (by omega) HCX.out HP2.out HS2.out hp3 ho3
    exact ⟨d3, hs3, permIn_trans _ _ _ _ _ HP1.out f2, f1⟩
   have HFIN := Lib.hid hfin
   clear hfin
   go_upto_region 43 with (fail)
   go_cut [213] from 206 to 212 (fun s wr' => s = .bool (decide (mid < e /\ e < b)) /\ Aside (SWK enc k w0 blk off d2 wr'))
   case first =>
    by_cases hr1 : mid < e
    ·have hz1 : (mid : Int) < (e : Int) := by omega
     by_cases hr2 : e < b
     ·have hz2 : (e : Int) < (b : Int) := by omega
      go_wp2_with fail
      go_meet
      exact ⟨by simp [hr1, hr2], S2'⟩
     ·have hz2 : ¬ (e : Int) < (b : Int) := by omega
      go_wp2_with fail
      go_meet
      exact ⟨by simp [hr2], S2'⟩
    ·have hz1 : ¬ (mid : Int) < (e : Int) := by omega
     go_wp2_with fail
     go_meet
     exact ⟨by simp [hr1], S2'⟩
   case rest =>
   clear S2'
   obtain ⟨rfl, S2⟩ := hcut
   by_cases hr : mid < e /\ e < b
   ·rw [decide_eq_true hr]
    have hcall := HIH.out mid e b d2 _ (by omega) (by omega) S2.out hr.1 hr.2 (by omega) HPR2.out
    rw [hd2] at hcall
    have HCALL := Lib.hid hcall
    clear hcall hr
    go_wp2_with fail
    refine HCALL.out.mono ?_
    rintro ee w1 ⟨rfl, d3, S3, hp, hs3⟩
    have HH := Lib.hid (HFIN.out d3 w1 S3 hp hs3)
    clear S3 hp hs3
    go_wp2_with fail
    go_end0
    exact ⟨rfl, HH.out⟩
   ·rw [decide_eq_false hr]
    have hsrt : SortedIn lt mid b d2 := by
     rcases Nat.lt_or_ge mid e with h | h
     ·have : e = b := by omega
      rw [<- this]; exact HPR2.out.1
     ·have : e = mid := by omega
      rw [<- this]; exact HPR2.out.2.1
    have HSRT := Lib.hid hsrt
    clear hr hsrt
    go_wp2_with fail
    go_end0
    exact ⟨rfl, HFIN.out d2 _ S2.out (permIn_refl _ _ _) HSRT.out⟩
theorem sym_any (k : Nat) (L : Lays P k) (enc : α -> List Value) (cf : α -> α -> Int) (lt : α -> α -> Bool) (Sw : SWO lt) (g : Nat) (cb : Array Value) (blk off cap : Nat) (d0 : Array α) (w0 : World)
 (eg : ∀ args w, (callFunc g args).run P w = .ok (.enter g args) w) (hcmp : CmpLays P g cb enc k cf blk off d0.size w0) (R : RowK enc k w0 blk off d0) (hsz : d0.size < 4611686018427387904) (n : Nat) :
 ∀ (a m b : Nat) (d : Array α) (w : World), b - a <= n -> d0.size = d.size -> SWK enc k w0 blk off d w -> a < m -> m < b -> b <= d.size -> SymPre cf lt d a m b ->
   Calls P 180 #[.slice (some ⟨blk, off, none⟩) d.size cap, .int .i64 a, .int .i64 m, .int .i64 b, .func (.func g) #[] cb] w (SymPost enc k w0 blk off lt d a b) := by
 induction n with
 | zero => intro a m b d w h; omega
 | succ n ih =>
   intro a m b d w hn hs S ham hmb hb hpre
   by_cases h1 : m = a + 1
   ·exact sym_left k L enc cf lt Sw g cb blk off cap a m b d0 d w0 w eg hcmp R hs S h1 hmb hb (by omega) hpre.2.1 hpre.2.2
   ·by_cases h2 : b = m + 1
    ·exact sym_right k L enc cf lt Sw g cb blk off cap a m b d0 d w0 w eg hcmp R hs S (by omega) h2 hb (by omega) hpre.1 hpre.2.2
    ·exact sym_main k L enc cf lt Sw g cb blk off cap a m b d0 d w0 w eg hcmp R hs S (by omega) (by omega) hb (by omega) hpre
      (fun a' m' b' d' w' hlt hs' S' h3 h4 h5 hp' => ih a' m' b' d' w' (by omega) hs' S' h3 h4 h5 hp')
end SP
namespace SP
variable {P : Program} {α : Type} [Inhabited α]
def CmpAny (P : Program) (g : Nat) (cb : Array Value) (enc : α -> List Value) (cf : α -> α -> Int) : Prop :=
 ∀ (W : World) (x y : α), Calls P g (#[.agg (enc x).toArray, .agg (enc y).toArray] ++ cb) W fun e w' => e = .returned (.int .i64 (cf x y)) /\ ∃ q os', w' = grow (W.drewN q) os'
theorem ins_z (k : Nat) (L : Lays P k) (enc : α -> List Value) (cf : α -> α -> Int) (g : Nat) (cb : Array Value) (blk off cap a b : Nat) (d0 d : Array α) (w0 w : World)
 (eg : ∀ args w, (callFunc g args).run P w = .ok (.enter g args) w) (hcmp : CmpAny P g cb enc cf)
 (R : RowK enc k w0 blk off d0) (hs : d0.size = d.size) (S : SWK enc k w0 blk off d w) (hab : a <= b) (hb : b <= d.size) (hsz : d.size < 4611686018427387904) (s : Nat) (az bz : Int) (h0 : s = d.size) (h1 : az = a) (h2 : bz = b) :
 Calls P 179 #[.slice (some ⟨blk, off, none⟩) s cap, .int .i64 az, .int .i64 bz, .func (.func g) #[] cb] w fun e w' => e = .returned (.tuple #[]) /\ SWK enc k w0 blk off (insertionSort (ltOf cf) d a b) w' := by
 subst h0 h1 h2
 have h := AnyQ.insertionSortCmpFunc L.ins k L.aE L.zE enc R.hk R.h1 cf g cb blk off cap a b d w eg (fun _ _ _ _ x y => hcmp _ x y) (S.holds R.hblk R.hH hs.symm) (S.lt R.hblk) hab hb hsz
 refine h.mono ?_
 rintro e w' ⟨rfl, n, os, rfl⟩
 refine ⟨rfl, S.on R.hblk n _ os ?_⟩
 have : ∀ a b n i (dk : Array α), b - i <= n -> (insOuter (ltOf cf) a b i dk).size = dk.size := by
  intro a b n
  induction n with
  | zero => intro i dk hn; rw [insOuter_stop _ _ _ _ _ (by omega)]
  | succ n ih =>
    intro i dk hn
    by_cases hi : i < b
    ·rw [insOuter_go _ _ _ _ _ hi, ih _ _ (by omega)]
     have : ∀ (j : Nat) (dk : Array α), (insInner (ltOf cf) a j dk).size = dk.size := by
      intro j
      induction j with
      | zero => intro dk; rfl
      | succ j ihj => intro dk; unfold insInner; split <;> simp [ihj, size_swp]
     exact this _ _
    ·rw [insOuter_stop _ _ _ _ _ hi]
 exact this a b _ _ d (Nat.le_refl _)
theorem sym_z (k : Nat) (L : Lays P k) (enc : α -> List Value) (cf : α -> α -> Int) (lt : α -> α -> Bool) (Sw : SWO lt) (g : Nat) (cb : Array Value) (blk off cap a m b : Nat) (d0 d : Array α) (w0 w : World)
 (eg : ∀ args w, (callFunc g args).run P w = .ok (.enter g args) w) (hcmp : CmpAny P g cb enc cf)
 (R : RowK enc k w0 blk off d0) (hs : d0.size = d.size) (S : SWK enc k w0 blk off d w) (ham : a < m) (hmb : m < b) (hb : b <= d.size) (hsz : d.size < 4611686018427387904) (hpre : SymPre cf lt d a m b) (s : Nat) (az mz bz : Int) (h0 : s = d.size) (h1 : az = a) (h2 : mz = m) (h3 : bz = b) :
 Calls P 180 #[.slice (some ⟨blk, off, none⟩) s cap, .int .i64 az, .int .i64 mz, .int .i64 bz, .func (.func g) #[] cb] w (SymPost enc k w0 blk off lt d a b) := by
 subst h0 h1 h2 h3
 exact sym_any k L enc cf lt Sw g cb blk off cap d0 w0 eg (fun _ _ _ _ x y => hcmp _ x y) R (by omega) (b - a) a m b d w (Nat.le_refl _) hs S ham hmb hb hpre
def StabPost (enc : α -> List Value) (k : Nat) (w0 : World) (blk off : Nat) (lt : α -> α -> Bool) (d : Array α) (e : Ending) (w' : World) : Prop :=
 e = .returned (.tuple #[]) /\ ∃ d' : Array α, SWK enc k w0 blk off d' w' /\ PermIn 0 d.size d d' /\ SortedIn lt 0 d.size d'
theorem stable_any (k : Nat) (L : Lays P k) (enc : α -> List Value) (cf : α -> α -> Int) (lt : α -> α -> Bool) (Sw : SWO lt) (tg : α -> Nat) (hct : ∀ x y, tg x < tg y -> ltOf cf y x = lt y x) (g : Nat) (cb : Array Value) (blk off cap : Nat) (d0 : Array α) (w0 : World)
 (eg : ∀ args w, (callFunc g args).run P w = .ok (.enter g args) w) (hcmp : CmpAny P g cb enc cf)
 (R : RowK enc k w0 blk off d0) (htg : ∀ t, t < d0.size -> tg d0[t]! = t) (hsz : d0.size < 1152921504606846976) :
 Calls P 152 #[.slice (some ⟨blk, off, none⟩) d0.size cap, .int .i64 d0.size, .func (.func g) #[] cb] w0 (StabPost enc k w0 blk off lt d0) := by
 have mixed := L.mixed; have aE := L.aE; have zE := L.zE; have t0 := L.t0; have a0 := L.a0; have z0 := L.z0; have v0 := L.v0; have t3 := L.t3; have a3 := L.a3; have z3 := L.z3; have v3 := L.v3; have t4 := L.t4; have a4 := L.a4; have z4 := L.z4; have v4 := L.v4; have tu := L.tu; have au := L.au; have zu := L.zu; have vu := L.vu; have tS := L.tS; have aS := L.aS; have zS := L.zS; have vS := L.vS; have tC := L.tC; have aC := L.aC; have zC := L.zC; have vC := L.vC
 have FG := L.fStab
 have eIns : ∀ args w, (callFunc 179 args).run P w = .ok (.enter 179 args) w := L.ins.f20.enters rfl
 have eSym : ∀ args w, (callFunc 180 args).run P w = .ok (.enter 180 args) w := enters_of L.fSym (by kernel_rfl) rfl
 have S0 : Aside (SWK enc k w0 blk off d0 w0) := SWK.start R.hH
 have HC : Aside _ := hcmp
 have HCT := Lib.hid hct
 have HTG := Lib.hid htg
 have HSW := Lib.hid Sw
 clear hcmp hct htg Sw
 go_enter FG, Tryz.ntmps152
 go_wp2_with fail
 go_loopg [7, 8] d0.size (fun kx s7 s8 wr => ∃ (q a : Nat) (d : Array α), s7 = .int .i64 a /\ s8 = .int .i64 ((a : Int) + 20) /\ a <= d0.size /\ d0.size - a <= kx /\ d.size = d0.size /\ Aside (SWK enc k w0 blk off d wr) /\ Hid (Stage1 lt tg d0 d d0.size q a))
 case atStart => exact ⟨0, 0, d0, rfl, by first | rfl | go_num, Nat.zero_le _, by omega, rfl, S0, stage1_start lt tg d0 d0.size⟩
 case round =>
  clear S0
  obtain ⟨q, a, d, rfl, rfl, ha, hkx, hds, S1, H1⟩ := hrel
  by_cases hlt : a + 20 <= d0.size
  ·have hltz : (a : Int) + 20 <= (d0.size : Int) := by omega
   have HN := Lib.hid (stage1_ins HSW.out HCT.out HTG.out H1.out (a + 20) (by omega) hlt (by omega) (by omega))
   obtain ⟨hz, HST, _⟩ := HN.out
   have HST' := Lib.hid (HST rfl)
   clear HST HN
   go_wp2_with fail
   refine (ins_z k L enc cf g cb blk off cap a (a + 20) d0 d w0 _ eg HC.out R hds.symm S1.out (by omega) (by omega) (by omega) _ _ _ hds.symm rfl (by omega)).mono ?_
   rintro e w1 ⟨rfl, S2⟩
   have S2' : Aside (SWK enc k w0 blk off (insertionSort (ltOf cf) d a (a + 20)) w1) := S2
   clear S1 S2
   go_wp2_with fail
   go_roundg (d0.size - (a + 20))
   case measure => omega
   case rel => exact ⟨q + 1, a + 20, _, by first | rfl | go_num, by first | rfl | go_num, by omega, by omega, by rw [hz]; exact hds, S2', HST'⟩
  ·have hltz : ¬ (a : Int) + 20 <= (d0.size : Int) := by omega
   have HN := Lib.hid (stage1_ins HSW.out HCT.out HTG.out H1.out d0.size ha (Nat.le_refl _) (by omega) (by omega))
   obtain ⟨hz, _, HST⟩ := HN.out
   have HST' := Lib.hid (HST rfl)
   clear HST HN
   go_wp2_with fail
   refine (ins_z k L enc cf g cb blk off cap a d0.size d0 d w0 _ eg HC.out R hds.symm S1.out (by omega) (by omega) (by omega) _ _ _ hds.symm rfl rfl).mono ?_
   rintro e w1 ⟨rfl, S2⟩
   have S2' : Aside (SWK enc k w0 blk off (insertionSort (ltOf cf) d a d0.size) w1) := S2
   have hz2 : (insertionSort (ltOf cf) d a d0.size).size = d0.size := hz.trans hds
   generalize insertionSort (ltOf cf) d a d0.size = e1 at HST' S2' hz2
   clear S1 S2 hz
   go_wp2_with fail
   go_loopg [6] d0.size (fun kx s6 wr => ∃ (bs : Nat) (d : Array α), s6 = .int .i64 bs /\ 20 <= bs /\ bs <= 2 * d0.size + 20 /\ d0.size - bs <= kx /\ d.size = d0.size /\ Aside (SWK enc k w0 blk off d wr) /\ Hid (BlkFrom lt tg bs d0.size 0 d /\ PermIn 0 d0.size d0 d))
   case atStart => exact ⟨20, e1, rfl, Nat.le_refl _, by omega, by omega, hz2, S2', HST'⟩
   case round =>
    clear S2' HST' hz2
    obtain ⟨bs, d, rfl, hb1, hb2, hkx, hds, S1, H1⟩ := hrel
    by_cases hlt : bs < d0.size
    ·have hltz : (bs : Int) < (d0.size : Int) := by omega
     go_wp2_with fail
     have HS2 := Lib.hid (stage2_start H1.out.1 H1.out.2)
     clear H1
     go_loopg [7, 8] d0.size (fun kx s7 s8 wr => ∃ (q a2 : Nat) (d : Array α), s7 = .int .i64 a2 /\ s8 = .int .i64 ((a2 : Int) + 2 * (bs : Int)) /\ a2 <= d0.size /\ d0.size - a2 <= kx /\ d.size = d0.size /\ Aside (SWK enc k w0 blk off d wr) /\ Hid (Stage2 lt tg d0 d d0.size bs q a2))
     case atStart => exact ⟨0, 0, d, rfl, by first | rfl | (congr 1; omega), Nat.zero_le _, by omega, hds, S1, HS2⟩
     case round =>
      clear S1 HS2 hds
      obtain ⟨q, a2, d, rfl, rfl, ha2, hkx2, hds, S1, H1⟩ := hrel
      by_cases hlt2 : a2 + 2 * bs <= d0.size
      ·have hltz2 : (a2 : Int) + 2 * (bs : Int) <= (d0.size : Int) := by omega
       have HP := Lib.hid (stage2_pre HCT.out H1.out (a2 + 2 * bs) (by omega) (by omega))
       go_wp2_with fail
       refine (sym_z k L enc cf lt HSW.out g cb blk off cap a2 (a2 + bs) (a2 + 2 * bs) d0 d w0 _ eg HC.out R hds.symm S1.out (by omega) (by omega) (by omega) (by omega) ⟨HP.out.1, HP.out.2.1, HP.out.2.2.1⟩ _ _ _ _ hds.symm rfl (by omega) (by omega)).mono ?_
       rintro e w1 ⟨rfl, d', S2, hp, hs⟩
       have S2' : Aside (SWK enc k w0 blk off d' w1) := S2
       have hds' : d'.size = d0.size := hp.1.trans hds
       have HST := Lib.hid ((stage2_step (by omega) H1.out (a2 + 2 * bs) (by omega) (by omega) (by omega) HP.out.2.2.2.1 HP.out.2.2.2.2 hp hs).1 rfl)
       clear S1 S2 hp hs
       go_wp2_with fail
       go_roundg (d0.size - (a2 + 2 * bs))
       case measure => omega
       case rel => exact ⟨q + 1, a2 + 2 * bs, d', by first | rfl | (congr 1; omega), by first | rfl | (congr 1; omega), by omega, by omega, hds', S2', HST⟩
      ·have hltz2 : ¬ (a2 : Int) + 2 * (bs : Int) <= (d0.size : Int) := by omega
       by_cases hm : a2 + bs < d0.size
       ·have hmz : (a2 : Int) + (bs : Int) < (d0.size : Int) := by omega
        have HP := Lib.hid (stage2_pre HCT.out H1.out d0.size (by omega) hm)
        go_wp2_with fail
        refine (sym_z k L enc cf lt HSW.out g cb blk off cap a2 (a2 + bs) d0.size d0 d w0 _ eg HC.out R hds.symm S1.out (by omega) hm (by omega) (by omega) ⟨HP.out.1, HP.out.2.1, HP.out.2.2.1⟩ _ _ _ _ hds.symm rfl (by omega) rfl).mono ?_
        rintro e w1 ⟨rfl, d', S2, hp, hs⟩
        have S2' : Aside (SWK enc k w0 blk off d' w1) := S2
        have hds' : d'.size = d0.size := hp.1.trans hds
        have HST := stage2_step (by omega) H1.out d0.size (by omega) hm (by omega) HP.out.2.2.2.1 HP.out.2.2.2.2 hp hs
        have HEND : Hid (BlkFrom lt tg (2 * bs) d0.size 0 d' /\ PermIn 0 d0.size d0 d') := ⟨stage2_end HST.2.1 (by have := H1.out.1; omega), HST.2.2⟩
        clear S1 S2 hp hs HST
        go_wp2_with fail
        go_roundg (d0.size - 2 * bs)
        case measure => omega
        case rel => exact ⟨2 * bs, d', by first | rfl | (congr 1; omega), by omega, by omega, by omega, hds', S2', HEND⟩
       ·have hmz : ¬ (a2 : Int) + (bs : Int) < (d0.size : Int) := by omega
        have HEND : Hid (BlkFrom lt tg (2 * bs) d0.size 0 d /\ PermIn 0 d0.size d0 d) := ⟨stage2_end (stage2_none H1.out (by omega)) (by have := H1.out.1; omega), H1.out.2.2.2⟩
        go_wp2_with fail
        go_roundg (d0.size - 2 * bs)
        case measure => omega
        case rel => exact ⟨2 * bs, d, by first | rfl | (congr 1; omega), by omega, by omega, by omega, hds, S1, HEND⟩
    ·have hltz : ¬ (bs : Int) < (d0.size : Int) := by omega
     have HF := Lib.hid (blk_sorted H1.out.1 (by omega))
     go_wp2_with fail
     go_end0
     exact ⟨rfl, d, S1.out, H1.out.2, HF.out⟩
end SP
namespace SP
variable {β : Type} [Inhabited β]
def SortPost (w : World) (base : Nat) (enc : β -> List Value) (cf : β -> β -> Int) (v : Value) (xs : List β) (e : Ending) (w' : World) : Prop :=
 e = .returned (.tuple #[]) /\ ∃ ys, IsStable cf xs ys /\ Own w' base 136 enc 4 v ys /\ w.grownBy w' v.ownBlock
theorem ins_none (w : World) (g : Nat) (cb : Array Value) :
 Calls Tryz.prog 179 #[.slice none 0 0, .int .i64 0, .int .i64 0, .func (.func g) #[] cb] w fun e w' => e = .returned (.tuple #[]) /\ w = w' := by
 go_enter Tryz.func179, Tryz.ntmps179
 go_wp2_with fail
 go_loop [8] (fun i => i = .int .i64 1) (fun _ => 0)
 case atStart => rfl
 case round =>
  obtain rfl := hrel
  go_wp2_with fail
  go_end0
  exact ⟨rfl, rfl⟩
theorem stable_none (w : World) (g : Nat) (cb : Array Value) :
 Calls Tryz.prog 152 #[.slice none 0 0, .int .i64 0, .func (.func g) #[] cb] w fun e w' => e = .returned (.tuple #[]) /\ w = w' := by
 go_enter Tryz.func152, Tryz.ntmps152
 go_wp2_with fail
 go_loop [7, 8] (fun a b => a = .int .i64 0 /\ b = .int .i64 20) (fun _ _ => 0)
 case atStart => exact ⟨rfl, rfl⟩
 case round =>
  obtain ⟨rfl, rfl⟩ := hrel
  go_wp2_with (go_at_call 179; refine (ins_none _ g cb).mono ?_; rintro e w' ⟨rfl, rfl⟩)
  go_loop [6] (fun b => b = .int .i64 20) (fun _ => 0)
  case atStart => rfl
  case round =>
   obtain rfl := hrel
   go_wp2_with fail
   go_end0
   exact ⟨rfl, rfl⟩
theorem top_any (enc : β -> List Value) (C : Codec enc 4) (cf : β -> β -> Int) (Cm : Cmp cf) (g : Nat) (cb : Array Value) (w : World) (base : Nat) (v : Value) (xs : List β)
 (eg : ∀ args w, (callFunc g args).run Tryz.prog w = .ok (.enter g args) w) (hcmp : CmpAny Tryz.prog g cb enc cf) (hv : Own w base 136 enc 4 v xs) (hsz : xs.length < 1152921504606846976) :
 Calls Tryz.prog 121 #[v, .func (.func g) #[] cb] w (SortPost w base enc cf v xs) := by
 have HV := Lib.hid hv
 rcases hv.2 with ⟨rfl, hn⟩ | ⟨b, cap, cur, rfl, hb, hh, h1, h2, h3, h4⟩
 ·have hx : xs = [] := List.eq_nil_of_length_eq_zero hn
  subst hx
  clear hv
  go_enter Tryz.func121, Tryz.ntmps121
  go_wp2_with (go_at_call 152; refine (stable_none _ g cb).mono ?_; rintro e w' ⟨rfl, rfl⟩)
  go_end0
  exact ⟨rfl, [], IsStable.nil, HV.out, ⟨rfl, rfl, rfl, Nat.le_refl _, fun _ _ _ => rfl⟩⟩
 ·have hcon := stable_any (k := 4) lays (encT enc) (fun x y => cf x.1 y.1) (tlt cf) Cm.swo (fun p => p.2) (fun x y hxy => by
   unfold ltOf tlt
   by_cases e1 : cf y.1 x.1 < 0
   ·simp [e1]
   ·have : ¬ y.2 < x.2 := by omega
    simp [e1, this]) g cb b 0 cap xs.zipIdx.toArray w eg (fun W x y => hcmp W x.1 y.1)
   ⟨fun x => C.len x.1, fun x => C.one x.1, holds_of_own C hh h4, (Array.getElem?_eq_some_iff.1 hh).1⟩ (fun t ht => by
    simp at ht
    rw [getElem!_pos _ t (by simpa using ht)]
    simp) (by simpa using hsz)
  rw [show xs.zipIdx.toArray.size = xs.length by simp] at hcon
  have HCON := Lib.hid hcon
  clear hcon hcmp hv
  have HH := Lib.hid hh
  have H3 := Lib.hid h3
  have H2 := Lib.hid h2
  clear hh h4 h3 h2
  go_enter Tryz.func121, Tryz.ntmps121
  go_wp2_with fail
  refine HCON.out.mono ?_
  rintro e w1 ⟨rfl, d', S, hp, hs⟩
  have hd : d'.size = xs.length := by rw [hp.1]; simp
  have HF := Lib.hid (own_of_swk C hd hb HH.out h1 H2.out H3.out S)
  have HI := Lib.hid (IsStable.of_sorted Cm hp hs)
  clear S hp hs
  go_wp2_with fail
  go_end0
  exact ⟨rfl, _, HI.out, HF.out.1, HF.out.2⟩
end SP
def cfP (x y : Pa) : Int := if x.last < y.last then -1 else if y.last < x.last then 1 else 0
theorem cmpP : Cmp cfP := by
 constructor <;> intros <;> simp only [cfP] at * <;> (repeat' split at *) <;> first | omega | grind
theorem cmp_any : SP.CmpAny Tryz.prog 122 #[] encP cfP := by
 intro W x y
 obtain ⟨i, a, b, s⟩ := x
 obtain ⟨j, c, d, t⟩ := y
 simp only [encP, cfP]
 show Calls Tryz.prog 122 #[.agg #[.string i, .bool a, .bool b, .int .i64 s], .agg #[.string j, .bool c, .bool d, .int .i64 t]] W _
 by_cases h1 : s < t
 ·have e1 : decide (s < t) = true := by simpa using h1
  clear h1
  rw [if_pos (by simpa using e1)]
  go_enter Tryz.func122, Tryz.ntmps122
  go_wp2_with fail
  go_ret
  exact ⟨rfl, 0, _, by rw [alloc_eq_grow, alloc_eq_grow, grow_grow]; rfl⟩
 ·have e1 : decide (s < t) = false := by simpa using h1
  clear h1
  rw [if_neg (by simpa using e1)]
  by_cases h2 : t < s
  ·have e2 : decide (s > t) = true := by simpa using h2
   clear h2
   rw [if_pos (by simpa using e2)]
   go_enter Tryz.func122, Tryz.ntmps122
   go_wp2_with fail
   go_ret
   exact ⟨rfl, 0, _, by rw [alloc_eq_grow, alloc_eq_grow, grow_grow]; rfl⟩
  ·have e2 : decide (s > t) = false := by simpa using h2
   clear h2
   rw [if_neg (by simpa using e2)]
   go_enter Tryz.func122, Tryz.ntmps122
   go_wp2_with fail
   go_ret
   exact ⟨rfl, 0, _, by rw [alloc_eq_grow, alloc_eq_grow, grow_grow]; rfl⟩
end
end Go.Proofs.YtfgjimpmpckgpaaGreatDoor
