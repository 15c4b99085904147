import Derived.Test.YthgkgjcnmahacaaSc18
import Derived.Deep.Cut
import Derived.Deep.CutRange
/- The symmetric merge. -/
set_option linter.unusedSimpArgs false
set_option linter.unusedVariables false
namespace Go.Proofs.Ythgkgjcnmahacaa
open Go.Shelf Go.RowKit Go.Lib Go.Sort
namespace SP
variable {P : Program} {α : Type} [Inhabited α]

/-- What the merge asks of the two halves. -/
def SymPre (cf : α → α → Int) (lt : α → α → Bool) (d : Array α) (a m b : Nat) : Prop :=
  SortedIn lt a m d ∧ SortedIn lt m b d ∧ ∀ i j, a ≤ i → i < m → m ≤ j → j < b → ltOf cf d[j]! d[i]! = lt d[j]! d[i]!

theorem rot_triv (d : Array α) (s m e t : Nat) (h : s = m ∨ m = e) (hs : s ≤ m) (he : m ≤ e) : d[t]! = rotG d s m e t := by
  unfold rotG
  rcases h with rfl | rfl
  · by_cases h1 : s ≤ t ∧ t < s + (e - s)
    · rw [if_pos h1, Nat.sub_self, Nat.add_zero]
    · rw [if_neg h1, if_neg (by omega)]
  · rw [if_neg (by omega), Nat.sub_self]
    by_cases h1 : s + 0 ≤ t ∧ t < m
    · rw [if_pos h1, Nat.sub_zero]
    · rw [if_neg h1]

set_option maxHeartbeats 8000000 in
set_option maxRecDepth 1000000 in
theorem sym_main (k : Nat) (L : Lays P k) (enc : α → List Value) (cf : α → α → Int) (lt : α → α → Bool) (Sw : SWO lt) (g : Nat) (cb : Array Value) (blk off cap a m b : Nat) (d0 d : Array α) (w0 w : World)
    (eg : ∀ args w, (callFunc g args).run P w = .ok (.enter g args) w) (hcmp : CmpLays P g cb enc k cf blk off d0.size w0)
    (R : RowK enc k w0 blk off d0) (hs : d0.size = d.size) (S : SWK enc k w0 blk off d w) (ham : a + 1 < m) (hmb : m + 1 < b) (hb : b ≤ d.size) (hsz : d.size < 4611686018427387904)
    (hpre : SymPre cf lt d a m b)
    (ih : ∀ (a' m' b' : Nat) (d' : Array α) (w' : World), b' - a' < b - a → d0.size = d'.size → SWK enc k w0 blk off d' w' → a' < m' → m' < b' → b' ≤ d'.size → SymPre cf lt d' a' m' b' →
      Calls P 136 #[.slice (some ⟨blk, off, none⟩) d'.size cap, .int .i64 a', .int .i64 m', .int .i64 b', .func (.func g) #[] cb] w' (SymPost enc k w0 blk off lt d' a' b')) :
    Calls P 136 #[.slice (some ⟨blk, off, none⟩) d.size cap, .int .i64 a, .int .i64 m, .int .i64 b, .func (.func g) #[] cb] w (SymPost enc k w0 blk off lt d a b) := by
  have mixed := L.mixed; have aE := L.aE; have zE := L.zE; have t0 := L.t0; have a0 := L.a0; have z0 := L.z0; have v0 := L.v0; have t3 := L.t3; have a3 := L.a3; have z3 := L.z3; have v3 := L.v3; have t4 := L.t4; have a4 := L.a4; have z4 := L.z4; have v4 := L.v4; have tu := L.tu; have au := L.au; have zu := L.zu; have vu := L.vu; have tS := L.tS; have aS := L.aS; have zS := L.zS; have vS := L.vS; have tC := L.tC; have aC := L.aC; have zC := L.zC; have vC := L.vC
  have FG := L.fSym
  have eRot : ∀ args w, (callFunc 148 args).run P w = .ok (.enter 148 args) w := enters_of L.fRot (by kernel_rfl) rfl
  have eSym : ∀ args w, (callFunc 136 args).run P w = .ok (.enter 136 args) w := enters_of L.fSym (by kernel_rfl) rfl
  have S0 : Aside (SWK enc k w0 blk off d w) := S
  have HC : Aside _ := hcmp
  have HIH : Aside _ := ih
  have HSW := Lib.hid Sw
  have HP := Lib.hid hpre
  clear S hcmp Sw hpre ih
  have hone : ((m : Int) - (a : Int) == 1) = false := by rw [beq_eq_false_iff_ne]; omega
  have hone2 : ((b : Int) - (m : Int) == 1) = false := by rw [beq_eq_false_iff_ne]; omega
  obtain ⟨mid, hmid⟩ : ∃ mid, (a + b) / 2 = mid := ⟨_, rfl⟩
  have hmid1 : a < mid ∧ mid < b := by omega
  have emid : ((a : Int) + (b : Int)) / 2 = (mid : Int) := by omega
  have emid2 : 2 * mid ≤ a + b ∧ a + b ≤ 2 * mid + 1 := by omega
  have HMID := Lib.hid hmid
  clear hmid
  go_enter FG, Try.ntmps136
  go_upto_if 140 with (fail)
  go_cut [20, 21] from 138 to 146 (fun s20 s21 wr => ∃ s0 r0 : Nat, s20 = .int .i64 s0 ∧ s21 = .int .i64 r0 ∧ a ≤ s0 ∧ s0 ≤ r0 ∧ r0 ≤ m ∧ r0 ≤ mid ∧ mid + m ≤ b + s0 ∧ (s0 = a ∨ s0 + b = mid + m) ∧ (r0 = m ∨ r0 = mid) ∧ Aside (SWK enc k w0 blk off d wr))
  case first =>
    by_cases hmm : mid < m
    · have hmz : (mid : Int) < (m : Int) := by omega
      have eS : ((mid + m - b : Nat) : Int) = (mid : Int) + (m : Int) - (b : Int) := by omega
      have ES := Lib.hid eS
      clear eS
      go_wp2_with fail
      go_meet
      exact ⟨mid + m - b, mid, by rw [ES.out], rfl, by omega, by omega, by omega, by omega, by omega, .inr (by omega), .inr rfl, S0⟩
    · have hmz : ¬ (mid : Int) < (m : Int) := by omega
      go_wp2_with fail
      go_meet
      exact ⟨a, m, rfl, rfl, Nat.le_refl _, by omega, by omega, by omega, by omega, .inl rfl, .inl rfl, S0⟩
  case rest =>
  obtain ⟨s0, r0, rfl, rfl, q1, q2, q3, q4, q5, q6, q7, S1⟩ := hcut
  clear S0
  go_wp2_with fail
  go_loopg [20, 21] (r0 - s0) (fun kx s20 s21 wr => ∃ (st r : Nat), s20 = .int .i64 st ∧ s21 = .int .i64 r ∧ s0 ≤ st ∧ st ≤ r ∧ r ≤ r0 ∧ r - st ≤ kx ∧ Aside (SWK enc k w0 blk off d wr) ∧ Hid (s0 < st → lt d[mid + m - st]! d[st - 1]! = false) ∧ Hid (r < r0 → lt d[mid + m - r - 1]! d[r]! = true))
  case atStart => exact ⟨s0, r0, rfl, rfl, Nat.le_refl _, q2, Nat.le_refl _, by omega, S1, fun h => by omega, fun h => by omega⟩
  case round =>
    clear S1
    obtain ⟨st, r, rfl, rfl, hi1, hij, hjb, hkx, S1, HA, HB⟩ := hrel
    by_cases hlt : st < r
    · have hltz : (st : Int) < (r : Int) := by omega
      obtain ⟨c, hc⟩ : ∃ c, (st + r) / 2 = c := ⟨_, rfl⟩
      have ecc : ((st : Int) + (r : Int)) / 2 = (c : Int) := by omega
      have hh : st ≤ c ∧ c < r := by omega
      clear hc
      have bc : (c : Int) < (d.size : Int) := by omega
      have pc : (0 : Int) ≤ (c : Int) := by omega
      obtain ⟨pp, hpp⟩ : ∃ pp, mid + m - 1 - c = pp := ⟨_, rfl⟩
      have ew : (mid : Int) + (m : Int) - 1 - (c : Int) = (pp : Int) := by omega
      have rp : IntKind.i64.wrap (pp : Int) = (pp : Int) := by rw [IntKind.wrap_i64]; omega
      have bp : (pp : Int) < (d.size : Int) := by omega
      have pz : (0 : Int) ≤ (pp : Int) := by omega
      have hpp2 : m ≤ pp ∧ pp < b := by omega
      have HPP := Lib.hid hpp
      clear hpp
      obtain ⟨xc, hxc⟩ : ∃ x, d[c]! = x := ⟨_, rfl⟩
      obtain ⟨xp, hxp⟩ : ∃ x, d[pp]! = x := ⟨_, rfl⟩
      have hcr : ltOf cf xp xc = lt xp xc := by rw [← hxc, ← hxp]; exact HP.out.2.2 c _ (by omega) (by omega) (by omega) (by omega)
      have lc := S1.out.ld R hs.symm P c (by omega)
      have lp := S1.out.ld R hs.symm P pp (by omega)
      rw [hxc] at lc
      rw [hxp] at lp
      have hcg := S1.out.cmp HC.out hs.symm xp xc
      have GR : Aside (∀ n os, SWK enc k w0 blk off d (grow (wr.drewN n) os)) := fun n os => S1.out.grown n os
      have HXC := Lib.hid hxc
      have HXP := Lib.hid hxp
      have HCR := Lib.hid hcr
      clear hxc hxp hcr S1
      by_cases hlv : cf xp xc < 0
      · have HB' : Hid (c < r0 → lt d[mid + m - c - 1]! d[c]! = true) := fun _ => by
          rw [show mid + m - c - 1 = pp by have := HPP.out; omega, HXC.out, HXP.out, ← HCR.out]; exact decide_eq_true hlv
        go_wp2_with fail
        go_quiet_grown (first | (go_at_fn g; refine Calls.grown_of (hcg _ _)))
        go_wp2_with fail
        go_roundg (c - st)
        case measure => omega
        case rel => exact ⟨st, c, rfl, rfl, by omega, by omega, by omega, by omega, GR.out nq osq, HA, HB'⟩
      · have HA' : Hid (s0 < c + 1 → lt d[mid + m - (c + 1)]! d[c + 1 - 1]! = false) := fun _ => by
          rw [show mid + m - (c + 1) = pp by have := HPP.out; omega, Nat.add_sub_cancel, HXC.out, HXP.out, ← HCR.out]; exact decide_eq_false hlv
        have hlv2 : decide (cf xp xc < 0) = false := decide_eq_false hlv
        have hlv3 : 0 ≤ cf xp xc := by omega
        go_wp2_with fail
        go_quiet_grown (first | (go_at_fn g; refine Calls.grown_of (hcg _ _)))
        go_wp2_with fail
        go_roundg (r - (c + 1))
        case measure => omega
        case rel => exact ⟨c + 1, r, by first | rfl | go_num, rfl, by omega, by omega, by omega, by omega, GR.out nq osq, HA', HB⟩
    · obtain rfl : st = r := by omega
      have hltz : ¬ (st : Int) < (st : Int) := by omega
      obtain ⟨e, he⟩ : ∃ e, mid + m - st = e := ⟨_, rfl⟩
      have eE : (mid : Int) + (m : Int) - (st : Int) = (e : Int) := by omega
      have he1 : st + e = mid + m := by omega
      have he2 : m ≤ e ∧ e ≤ b := by omega
      rw [he] at HA HB
      clear he
      go_upto_region 39 with (fail)
      go_cut [185] from 178 to 184 (fun s wr' => s = .bool (decide (st < m ∧ m < e)) ∧ Aside (SWK enc k w0 blk off d wr'))
      case first =>
        by_cases hr1 : st < m
        · have hz1 : (st : Int) < (m : Int) := by omega
          by_cases hr2 : m < e
          · have hz2 : (m : Int) < (e : Int) := by omega
            go_wp2_with fail
            go_meet
            exact ⟨by simp [hr1, hr2], S1⟩
          · have hz2 : ¬ (m : Int) < (e : Int) := by omega
            go_wp2_with fail
            go_meet
            exact ⟨by simp [hr2], S1⟩
        · have hz1 : ¬ (st : Int) < (m : Int) := by omega
          go_wp2_with fail
          go_meet
          exact ⟨by simp [hr1], S1⟩
      case rest =>
      clear S1
      obtain ⟨rfl, S1⟩ := hcut
      obtain ⟨bR, hbR⟩ : ∃ bR, decide (st < m ∧ m < e) = bR := ⟨_, rfl⟩
      rw [hbR]
      have HBR := Lib.hid hbR
      clear hbR
      go_upto_if 185 with (fail)
      go_cut [24] from 178 to 191 (fun s24 wr' => s24 = .int .i64 e ∧ Aside (∃ d1 : Array α, SWK enc k w0 blk off d1 wr' ∧ PermIn a b d d1 ∧ ∀ t, d1[t]! = rotG d st m e t))
      case first =>
        cases bR with
        | true =>
          have hr : st < m ∧ m < e := of_decide_eq_true HBR.out
          have hr1 := hr.1
          have hr2 := hr.2
          clear hr
          go_wp2_with fail
          refine (rotate_any k L enc g cb blk off cap st m e d0 d _ _ R hs S1.out hr1 hr2 (by omega) hsz).mono ?_
          rintro ee w1 ⟨rfl, d1, S2, hp, hr⟩
          have HH : Aside (∃ d1 : Array α, SWK enc k w0 blk off d1 w1 ∧ PermIn a b d d1 ∧ ∀ t, d1[t]! = rotG d st m e t) := ⟨d1, S2, permIn_mono _ _ _ _ _ _ (by omega) (by omega) hb hp, hr⟩
          clear S2 hp hr
          go_wp2_with fail
          go_meet
          exact ⟨rfl, HH⟩
        | false =>
          have hr : ¬ (st < m ∧ m < e) := of_decide_eq_false HBR.out
          have HH := fun w' (h : SWK enc k w0 blk off d w') => (show Aside (∃ d1 : Array α, SWK enc k w0 blk off d1 w' ∧ PermIn a b d d1 ∧ ∀ t, d1[t]! = rotG d st m e t) from ⟨d, h, permIn_refl _ _ _, fun t => rot_triv d st m e t (by omega) (by omega) (by omega)⟩)
          clear hr
          go_wp2_with fail
          go_meet
          exact ⟨rfl, HH _ S1.out⟩
      case rest =>
      obtain ⟨rfl, HD⟩ := hcut
      clear S1
      obtain ⟨d1, S1, hp1, hr1⟩ := HD.out
      have hd1 : d1.size = d.size := hp1.1
      have HPT := Lib.hid (sym_parts HP.out.1 HP.out.2.1 (by omega : a ≤ st) (by omega) he2.1 he2.2 he1 hr1)
      have HCX := Lib.hid (sym_cross HSW.out HP.out.1 HP.out.2.1 (by omega : a ≤ st) (by omega) he2.1 he2.2 he1 hr1 HA.out HB.out (by omega) (by omega) hi1 hjb)
      have HPR : Hid (SymPre cf lt d1 a st mid ∧ SymPre cf lt d1 mid e b) := by
        obtain ⟨z1, z2, z3, z4⟩ := HPT.out
        have hX := HP.out.2.2
        refine ⟨⟨z1, z2, fun i j y1 y2 y3 y4 => ?_⟩, ⟨z3, z4, fun i j y1 y2 y3 y4 => ?_⟩⟩
        · rw [hr1, hr1, rotG, rotG, if_pos (by omega), if_neg (by omega), if_neg (by omega)]
          exact hX _ _ (by omega) (by omega) (by omega) (by omega)
        · rw [hr1, hr1, rotG, rotG, if_neg (by omega), if_neg (by omega), if_neg (by omega), if_pos (by omega)]
          exact hX _ _ (by omega) (by omega) (by omega) (by omega)
      have HP1 := Lib.hid hp1
      have S1' : Aside (SWK enc k w0 blk off d1 wc) := S1
      clear hp1 hr1 S1 HD HBR HA HB
      go_upto_region 41 with (fail)
      go_cut [199] from 192 to 198 (fun s wr' => s = .bool (decide (a < st ∧ st < mid)) ∧ Aside (SWK enc k w0 blk off d1 wr'))
      case first =>
        by_cases hr1 : a < st
        · have hz1 : (a : Int) < (st : Int) := by omega
          by_cases hr2 : st < mid
          · have hz2 : (st : Int) < (mid : Int) := by omega
            go_wp2_with fail
            go_meet
            exact ⟨by simp [hr1, hr2], S1'⟩
          · have hz2 : ¬ (st : Int) < (mid : Int) := by omega
            go_wp2_with fail
            go_meet
            exact ⟨by simp [hr2], S1'⟩
        · have hz1 : ¬ (a : Int) < (st : Int) := by omega
          go_wp2_with fail
          go_meet
          exact ⟨by simp [hr1], S1'⟩
      case rest =>
      clear S1'
      obtain ⟨rfl, S1⟩ := hcut
      obtain ⟨bR, hbR⟩ : ∃ bR, decide (a < st ∧ st < mid) = bR := ⟨_, rfl⟩
      rw [hbR]
      have HBR := Lib.hid hbR
      clear hbR
      go_upto_if 199 with (fail)
      go_cut [24] from 192 to 205 (fun s24 wr' => s24 = .int .i64 e ∧ Aside (∃ d2 : Array α, SWK enc k w0 blk off d2 wr' ∧ PermIn a mid d1 d2 ∧ SortedIn lt a mid d2))
      case first =>
        cases bR with
        | true =>
          have hr : a < st ∧ st < mid := of_decide_eq_true HBR.out
          have hr1 := hr.1
          have hr2 := hr.2
          clear hr
          have hcall := HIH.out a st mid d1 _ (by omega) (by omega) S1.out hr1 hr2 (by omega) HPR.out.1
          rw [hd1] at hcall
          have HCALL := Lib.hid hcall
          clear hcall
          go_wp2_with fail
          refine HCALL.out.mono ?_
          rintro ee w1 ⟨rfl, d2, S2, hp, hr⟩
          have HH : Aside (∃ d2 : Array α, SWK enc k w0 blk off d2 w1 ∧ PermIn a mid d1 d2 ∧ SortedIn lt a mid d2) := ⟨d2, S2, hp, hr⟩
          clear S2 hp hr
          go_wp2_with fail
          go_meet
          exact ⟨rfl, HH⟩
        | false =>
          have hr : ¬ (a < st ∧ st < mid) := of_decide_eq_false HBR.out
          have hsrt : SortedIn lt a mid d1 := by
            rcases Nat.lt_or_ge a st with h | h
            · have : st = mid := by omega
              rw [← this]; exact HPT.out.1
            · have : a = st := by omega
              rw [this]; exact HPT.out.2.1
          have HH := fun w' (h : SWK enc k w0 blk off d1 w') => (show Aside (∃ d2 : Array α, SWK enc k w0 blk off d2 w' ∧ PermIn a mid d1 d2 ∧ SortedIn lt a mid d2) from ⟨d1, h, permIn_refl _ _ _, hsrt⟩)
          clear hr hsrt
          go_wp2_with fail
          go_meet
          exact ⟨rfl, HH _ S1.out⟩
      case rest =>
      obtain ⟨rfl, HD⟩ := hcut
      clear S1 HBR
      obtain ⟨d2, S2, hp2, hs2⟩ := HD.out
      have hd2 : d2.size = d.size := hp2.1.trans hd1
      have HPR2 : Hid (SymPre cf lt d2 mid e b) := by
        obtain ⟨z3, z4, hX⟩ := HPR.out.2
        refine ⟨fun i j y1 y2 y3 => ?_, fun i j y1 y2 y3 => ?_, fun i j y1 y2 y3 y4 => ?_⟩
        · rw [perm_out hp2 (.inr y1), perm_out hp2 (.inr (by omega))]; exact z3 i j y1 y2 y3
        · rw [perm_out hp2 (.inr (by omega)), perm_out hp2 (.inr (by omega))]; exact z4 i j y1 y2 y3
        · rw [perm_out hp2 (.inr (by omega)), perm_out hp2 (.inr (by omega))]; exact hX i j y1 y2 y3 y4
      have HP2 := Lib.hid hp2
      have HS2 := Lib.hid hs2
      have S2' : Aside (SWK enc k w0 blk off d2 wc) := S2
      clear hp2 hs2 S2 HD
      have hfin : ∀ d3 w', SWK enc k w0 blk off d3 w' → PermIn mid b d2 d3 → SortedIn lt mid b d3 → ∃ d' : Array α, SWK enc k w0 blk off d' w' ∧ PermIn a b d d' ∧ SortedIn lt a b d' := fun d3 w' hs3 hp3 ho3 => by
        obtain ⟨f1, f2⟩ := sym_whole (by omega) (by omega) (by omega) HCX.out HP2.out HS2.out hp3 ho3
        exact ⟨d3, hs3, permIn_trans _ _ _ _ _ HP1.out f2, f1⟩
      have HFIN := Lib.hid hfin
      clear hfin
      go_upto_region 43 with (fail)
      go_cut [213] from 206 to 212 (fun s wr' => s = .bool (decide (mid < e ∧ e < b)) ∧ Aside (SWK enc k w0 blk off d2 wr'))
      case first =>
        by_cases hr1 : mid < e
        · have hz1 : (mid : Int) < (e : Int) := by omega
          by_cases hr2 : e < b
          · have hz2 : (e : Int) < (b : Int) := by omega
            go_wp2_with fail
            go_meet
            exact ⟨by simp [hr1, hr2], S2'⟩
          · have hz2 : ¬ (e : Int) < (b : Int) := by omega
            go_wp2_with fail
            go_meet
            exact ⟨by simp [hr2], S2'⟩
        · have hz1 : ¬ (mid : Int) < (e : Int) := by omega
          go_wp2_with fail
          go_meet
          exact ⟨by simp [hr1], S2'⟩
      case rest =>
      clear S2'
      obtain ⟨rfl, S2⟩ := hcut
      by_cases hr : mid < e ∧ e < b
      · rw [decide_eq_true hr]
        have hcall := HIH.out mid e b d2 _ (by omega) (by omega) S2.out hr.1 hr.2 (by omega) HPR2.out
        rw [hd2] at hcall
        have HCALL := Lib.hid hcall
        clear hcall hr
        go_wp2_with fail
        refine HCALL.out.mono ?_
        rintro ee w1 ⟨rfl, d3, S3, hp, hs3⟩
        have HH := Lib.hid (HFIN.out d3 w1 S3 hp hs3)
        clear S3 hp hs3
        go_wp2_with fail
        go_end0
        exact ⟨rfl, HH.out⟩
      · rw [decide_eq_false hr]
        have hsrt : SortedIn lt mid b d2 := by
          rcases Nat.lt_or_ge mid e with h | h
          · have : e = b := by omega
            rw [← this]; exact HPR2.out.1
          · have : e = mid := by omega
            rw [← this]; exact HPR2.out.2.1
        have HSRT := Lib.hid hsrt
        clear hr hsrt
        go_wp2_with fail
        go_end0
        exact ⟨rfl, HFIN.out d2 _ S2.out (permIn_refl _ _ _) HSRT.out⟩

theorem sym_any (k : Nat) (L : Lays P k) (enc : α → List Value) (cf : α → α → Int) (lt : α → α → Bool) (Sw : SWO lt) (g : Nat) (cb : Array Value) (blk off cap : Nat) (d0 : Array α) (w0 : World)
    (eg : ∀ args w, (callFunc g args).run P w = .ok (.enter g args) w) (hcmp : CmpLays P g cb enc k cf blk off d0.size w0) (R : RowK enc k w0 blk off d0) (hsz : d0.size < 4611686018427387904) (n : Nat) :
    ∀ (a m b : Nat) (d : Array α) (w : World), b - a ≤ n → d0.size = d.size → SWK enc k w0 blk off d w → a < m → m < b → b ≤ d.size → SymPre cf lt d a m b →
      Calls P 136 #[.slice (some ⟨blk, off, none⟩) d.size cap, .int .i64 a, .int .i64 m, .int .i64 b, .func (.func g) #[] cb] w (SymPost enc k w0 blk off lt d a b) := by
  induction n with
  | zero => intro a m b d w h; omega
  | succ n ih =>
    intro a m b d w hn hs S ham hmb hb hpre
    by_cases h1 : m = a + 1
    · exact sym_left k L enc cf lt Sw g cb blk off cap a m b d0 d w0 w eg hcmp R hs S h1 hmb hb (by omega) hpre.2.1 hpre.2.2
    · by_cases h2 : b = m + 1
      · exact sym_right k L enc cf lt Sw g cb blk off cap a m b d0 d w0 w eg hcmp R hs S (by omega) h2 hb (by omega) hpre.1 hpre.2.2
      · exact sym_main k L enc cf lt Sw g cb blk off cap a m b d0 d w0 w eg hcmp R hs S (by omega) (by omega) hb (by omega) hpre
          (fun a' m' b' d' w' hlt hs' S' h3 h4 h5 hp' => ih a' m' b' d' w' (by omega) hs' S' h3 h4 h5 hp')
end SP
end Go.Proofs.Ythgkgjcnmahacaa
