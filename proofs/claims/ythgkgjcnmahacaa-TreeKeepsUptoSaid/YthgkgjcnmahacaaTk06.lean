import Derived.Test.YthgkgjcnmahacaaTk05
import Derived.Deep.Cut
import Derived.Deep.CutRange
section
/- The symmetric merge where the right is one element: it is laid into the left. -/
set_option linter.unusedSimpArgs false
set_option linter.unusedVariables false
namespace Go.Proofs.Ythgkgjcnmahacaa
open Go.Shelf Go.RowKit Go.Lib Go.Sort
namespace SM
variable {P : Program} {α : Type} [Inhabited α]

set_option maxHeartbeats 4000000 in
set_option maxRecDepth 1000000 in
theorem sym_right (k : Nat) (L : Lays P k) (enc : α → List Value) (cf : α → α → Int) (lt : α → α → Bool) (Sw : SWO lt) (g : Nat) (cb : Array Value) (blk off cap a m b : Nat) (d0 d : Array α) (w0 w : World)
    (eg : ∀ args w, (callFunc g args).run P w = .ok (.enter g args) w) (hcmp : CmpLays P g cb enc k cf blk off d0.size w0)
    (R : RowK enc k w0 blk off d0) (hs : d0.size = d.size) (S : SWK enc k w0 blk off d w) (ham : a + 1 < m) (hmb : b = m + 1) (hb : b ≤ d.size) (hsz : d.size < 4611686018427387904)
    (h1 : SortedIn lt a m d) (hx : ∀ i j, a ≤ i → i < m → m ≤ j → j < b → ltOf cf d[j]! d[i]! = lt d[j]! d[i]!) :
    Calls P 114 #[.slice (some ⟨blk, off, none⟩) d.size cap, .int .i64 a, .int .i64 m, .int .i64 b, .func (.func g) #[] cb] w (SymPost enc k w0 blk off lt d a b) := by
  have mixed := L.mixed; have aE := L.aE; have zE := L.zE; have t0 := L.t0; have a0 := L.a0; have z0 := L.z0; have v0 := L.v0; have t3 := L.t3; have a3 := L.a3; have z3 := L.z3; have v3 := L.v3; have t4 := L.t4; have a4 := L.a4; have z4 := L.z4; have v4 := L.v4; have tu := L.tu; have au := L.au; have zu := L.zu; have vu := L.vu; have tS := L.tS; have aS := L.aS; have zS := L.zS; have vS := L.vS; have tC := L.tC; have aC := L.aC; have zC := L.zC; have vC := L.vC
  have FG := L.fSym
  have S0 : Aside (SWK enc k w0 blk off d w) := S
  have HC : Aside _ := hcmp
  have HSW := Lib.hid Sw
  have HX := Lib.hid hx
  have H1 := Lib.hid h1
  clear S hcmp Sw hx h1
  subst hmb
  have hone : ((m : Int) - (a : Int) == 1) = false := by rw [beq_eq_false_iff_ne]; omega
  have hone2 : (((m + 1 : Nat) : Int) - (m : Int) == 1) = true := by rw [beq_iff_eq]; omega
  have hone3 : ((m : Int) + 1 - (m : Int) == 1) = true := by rw [beq_iff_eq]; omega
  go_enter FG, Try.ntmps114
  go_wp2_with fail
  go_loopg [14, 15] (m - a) (fun kx s10 s11 wr => ∃ (i j : Nat), s10 = .int .i64 i ∧ s11 = .int .i64 j ∧ a ≤ i ∧ i ≤ j ∧ j ≤ m ∧ j - i ≤ kx ∧ Aside (SWK enc k w0 blk off d wr) ∧ Hid (a < i → lt d[m]! d[i - 1]! = false) ∧ Hid (j < m → lt d[m]! d[j]! = true))
  case atStart => exact ⟨a, m, rfl, rfl, Nat.le_refl _, by omega, Nat.le_refl _, by omega, S0, fun h => by omega, fun h => by omega⟩
  case round =>
    clear S0
    obtain ⟨i, j, rfl, rfl, hi1, hij, hjb, hkx, S1, HA, HB⟩ := hrel
    by_cases hlt : i < j
    · have hltz : (i : Int) < (j : Int) := by omega
      have eh : (((i : Int) + (j : Int)) / 2).toNat = (i + j) / 2 := by omega
      have ph : (0 : Int) ≤ ((i : Int) + (j : Int)) / 2 := by omega
      have bh : ((i : Int) + (j : Int)) / 2 < (d.size : Int) := by omega
      have ba : (m : Int) < (d.size : Int) := by omega
      have pa : (0 : Int) ≤ (m : Int) := by omega
      have hh : i ≤ (i + j) / 2 ∧ (i + j) / 2 < j := by omega
      obtain ⟨xh, hxh⟩ : ∃ x, d[(i + j) / 2]! = x := ⟨_, rfl⟩
      obtain ⟨xa, hxa⟩ : ∃ x, d[m]! = x := ⟨_, rfl⟩
      have hcr : ltOf cf xa xh = lt xa xh := by rw [← hxh, ← hxa]; exact HX.out _ m (by omega) (by omega) (Nat.le_refl _) (by omega)
      have lh := S1.out.ld R hs.symm P ((i + j) / 2) (by omega)
      have la := S1.out.ld R hs.symm P m (by omega)
      rw [hxh] at lh
      rw [hxa] at la
      have hcg := S1.out.cmp HC.out hs.symm xa xh
      have GR : Aside (∀ n os, SWK enc k w0 blk off d (grow (wr.drewN n) os)) := fun n os => S1.out.grown n os
      have HXH := Lib.hid hxh
      have HXA := Lib.hid hxa
      have HCR := Lib.hid hcr
      clear hxh hxa hcr S1
      by_cases hlv : cf xa xh < 0
      · have HB' : Hid ((i + j) / 2 < m → lt d[m]! d[(i + j) / 2]! = true) := fun _ => by
          rw [HXH.out, HXA.out, ← HCR.out]; exact decide_eq_true hlv
        go_wp2_with fail
        go_quiet_grown (first | (go_at_fn g; refine Calls.grown_of (hcg _ _)))
        go_wp2_with fail
        go_roundg ((i + j) / 2 - i)
        case measure => omega
        case rel => exact ⟨i, (i + j) / 2, rfl, by first | rfl | (congr 1; omega), by omega, by omega, by omega, by omega, GR.out nq osq, HA, HB'⟩
      · have HA' : Hid (a < (i + j) / 2 + 1 → lt d[m]! d[(i + j) / 2 + 1 - 1]! = false) := fun _ => by
          rw [Nat.add_sub_cancel, HXH.out, HXA.out, ← HCR.out]; exact decide_eq_false hlv
        have hlv2 : decide (cf xa xh < 0) = false := decide_eq_false hlv
        have hlv3 : 0 ≤ cf xa xh := by omega
        go_wp2_with fail
        go_quiet_grown (first | (go_at_fn g; refine Calls.grown_of (hcg _ _)))
        go_wp2_with fail
        go_roundg (j - ((i + j) / 2 + 1))
        case measure => omega
        case rel => exact ⟨(i + j) / 2 + 1, j, by first | rfl | (congr 1; omega), rfl, by omega, by omega, by omega, by omega, GR.out nq osq, HA', HB⟩
    · obtain rfl : i = j := by omega
      have hltz : ¬ (i : Int) < (i : Int) := by omega
      have HI := Lib.hid (ins_right HSW.out H1.out hi1 hjb (by omega) HA.out HB.out)
      go_wp2_with fail
      go_loopg [17] (m - i) (fun kx s13 wr2 => ∃ c : Nat, s13 = .int .i64 ((m - c : Nat) : Int) ∧ c ≤ m - i ∧ m - i - c ≤ kx ∧ Aside (SWK enc k w0 blk off (bubDn d m c) wr2))
      case atStart => exact ⟨0, rfl, Nat.zero_le _, by omega, S1⟩
      case round =>
        clear S1
        obtain ⟨c, rfl, hc, hkx2, S1⟩ := hrel
        by_cases hlt2 : c < m - i
        · have hds : (bubDn d m c).size = d.size := size_bubDn _ _ _
          generalize hdk : bubDn d m c = dk at S1 hds
          have HDK := Lib.hid hdk
          clear hdk
          have HSTEP : Hid (swp dk (m - c) (m - c - 1) = bubDn d m (c + 1)) := by unfold Hid; rw [bubDn, HDK.out]
          obtain ⟨ac, hac⟩ : ∃ ac, m - c = ac + 1 := ⟨m - c - 1, by omega⟩
          rw [hac, Nat.add_sub_cancel] at HSTEP
          rw [hac]
          have hacl : ac + 1 < d.size := by omega
          have hiac : i ≤ ac := by omega
          have HAC := Lib.hid hac
          clear hac
          have hltz2 : (i : Int) < ((ac + 1 : Nat) : Int) := by omega
          have hltz3 : (i : Int) < (ac : Int) + 1 := by omega
          have ea44 : ((ac : Int) + 1).toNat = ac + 1 := by omega
          have pa44 : (0 : Int) ≤ (ac : Int) + 1 := by omega
          have ba44 : (ac : Int) + 1 < (d.size : Int) := by omega
          have pc44 : (0 : Int) ≤ (ac : Int) := by omega
          have bc44 : (ac : Int) < (d.size : Int) := by omega
          have em44 : (ac : Int) + 1 - 1 = (ac : Int) := by omega
          go_wp2_with fail
          have S2 : Aside (SWK enc k w0 blk off (swp dk (ac + 1) ac) ((wr.drew.setCells blk (off + (ac + 1) * k) (enc dk[ac]!)).setCells blk (off + ac * k) (enc dk[ac + 1]!))) := S1.out.swapped R (ac + 1) ac (by omega) (by omega)
          have l44a := S1.out.ld1 R (by omega) P (ac + 1) (by omega)
          have l44b := S1.out.ld1 R (by omega) P ac (by omega)
          have s44a := S1.out.st1 R (by omega) P (ac + 1) (by omega) dk[ac]!
          have s44b := S1.out.st2 R (by omega) P (ac + 1) ac (by omega) (by omega) dk[ac]! dk[ac + 1]!
          have n44a : (enc dk[ac + 1]!).length = k := R.hk _
          have n44b : (enc dk[ac]!).length = k := R.hk _
          generalize enc dk[ac + 1]! = cI44 at S2 l44a s44b n44a
          generalize enc dk[ac]! = cJ44 at S2 l44b s44a s44b n44b
          clear S1
          go_big_region_o
          clear l44a l44b s44a s44b
          generalize (wr.drew.setCells blk (off + (ac + 1) * k) cJ44).setCells blk (off + ac * k) cI44 = w2 at S2 ⊢
          go_wp2
          go_roundg (m - i - (c + 1))
          case measure => have := HAC.out; omega
          case rel => exact ⟨c + 1, by have := HAC.out; first | rfl | (congr 1; omega), by have := HAC.out; omega, by omega, by rw [HSTEP.out] at S2; exact S2⟩
        · obtain rfl : c = m - i := by omega
          have hmi : m - (m - i) = i := by omega
          rw [hmi]
          have hltz2 : ¬ (i : Int) < (i : Int) := by omega
          go_wp2_with fail
          go_end0
          exact ⟨rfl, _, S1.out, bubDn_perm d m _ a (m + 1) (by omega) (by omega) (by omega) hb, HI.out⟩
end SM
end Go.Proofs.Ythgkgjcnmahacaa
end

section
/- The symmetric merge. -/
set_option linter.unusedSimpArgs false
set_option linter.unusedVariables false
namespace Go.Proofs.Ythgkgjcnmahacaa
open Go.Shelf Go.RowKit Go.Lib Go.Sort
namespace SM
variable {P : Program} {α : Type} [Inhabited α]

/-- What the merge asks of the two halves. -/
def SymPre (cf : α → α → Int) (lt : α → α → Bool) (d : Array α) (a m b : Nat) : Prop :=
  SortedIn lt a m d ∧ SortedIn lt m b d ∧ ∀ i j, a ≤ i → i < m → m ≤ j → j < b → ltOf cf d[j]! d[i]! = lt d[j]! d[i]!

theorem rot_triv (d : Array α) (s m e t : Nat) (h : s = m ∨ m = e) (hs : s ≤ m) (he : m ≤ e) : d[t]! = rotG d s m e t := by
  unfold rotG
  rcases h with rfl | rfl
  · by_cases h1 : s ≤ t ∧ t < s + (e - s)
    · rw [if_pos h1, Nat.sub_self, Nat.add_zero]
    · rw [if_neg h1, if_neg (by omega)]
  · rw [if_neg (by omega), Nat.sub_self]
    by_cases h1 : s + 0 ≤ t ∧ t < m
    · rw [if_pos h1, Nat.sub_zero]
    · rw [if_neg h1]

set_option maxHeartbeats 8000000 in
set_option maxRecDepth 1000000 in
theorem sym_main (k : Nat) (L : Lays P k) (enc : α → List Value) (cf : α → α → Int) (lt : α → α → Bool) (Sw : SWO lt) (g : Nat) (cb : Array Value) (blk off cap a m b : Nat) (d0 d : Array α) (w0 w : World)
    (eg : ∀ args w, (callFunc g args).run P w = .ok (.enter g args) w) (hcmp : CmpLays P g cb enc k cf blk off d0.size w0)
    (R : RowK enc k w0 blk off d0) (hs : d0.size = d.size) (S : SWK enc k w0 blk off d w) (ham : a + 1 < m) (hmb : m + 1 < b) (hb : b ≤ d.size) (hsz : d.size < 4611686018427387904)
    (hpre : SymPre cf lt d a m b)
    (ih : ∀ (a' m' b' : Nat) (d' : Array α) (w' : World), b' - a' < b - a → d0.size = d'.size → SWK enc k w0 blk off d' w' → a' < m' → m' < b' → b' ≤ d'.size → SymPre cf lt d' a' m' b' →
      Calls P 114 #[.slice (some ⟨blk, off, none⟩) d'.size cap, .int .i64 a', .int .i64 m', .int .i64 b', .func (.func g) #[] cb] w' (SymPost enc k w0 blk off lt d' a' b')) :
    Calls P 114 #[.slice (some ⟨blk, off, none⟩) d.size cap, .int .i64 a, .int .i64 m, .int .i64 b, .func (.func g) #[] cb] w (SymPost enc k w0 blk off lt d a b) := by
  have mixed := L.mixed; have aE := L.aE; have zE := L.zE; have t0 := L.t0; have a0 := L.a0; have z0 := L.z0; have v0 := L.v0; have t3 := L.t3; have a3 := L.a3; have z3 := L.z3; have v3 := L.v3; have t4 := L.t4; have a4 := L.a4; have z4 := L.z4; have v4 := L.v4; have tu := L.tu; have au := L.au; have zu := L.zu; have vu := L.vu; have tS := L.tS; have aS := L.aS; have zS := L.zS; have vS := L.vS; have tC := L.tC; have aC := L.aC; have zC := L.zC; have vC := L.vC
  have FG := L.fSym
  have eRot : ∀ args w, (callFunc 134 args).run P w = .ok (.enter 134 args) w := enters_of L.fRot (by kernel_rfl) rfl
  have eSym : ∀ args w, (callFunc 114 args).run P w = .ok (.enter 114 args) w := enters_of L.fSym (by kernel_rfl) rfl
  have S0 : Aside (SWK enc k w0 blk off d w) := S
  have HC : Aside _ := hcmp
  have HIH : Aside _ := ih
  have HSW := Lib.hid Sw
  have HP := Lib.hid hpre
  clear S hcmp Sw hpre ih
  have hone : ((m : Int) - (a : Int) == 1) = false := by rw [beq_eq_false_iff_ne]; omega
  have hone2 : ((b : Int) - (m : Int) == 1) = false := by rw [beq_eq_false_iff_ne]; omega
  obtain ⟨mid, hmid⟩ : ∃ mid, (a + b) / 2 = mid := ⟨_, rfl⟩
  have hmid1 : a < mid ∧ mid < b := by omega
  have emid : ((a : Int) + (b : Int)) / 2 = (mid : Int) := by omega
  have emid2 : 2 * mid ≤ a + b ∧ a + b ≤ 2 * mid + 1 := by omega
  have HMID := Lib.hid hmid
  clear hmid
  go_enter FG, Try.ntmps114
  go_upto_if 140 with (fail)
  go_cut [20, 21] from 138 to 146 (fun s20 s21 wr => ∃ s0 r0 : Nat, s20 = .int .i64 s0 ∧ s21 = .int .i64 r0 ∧ a ≤ s0 ∧ s0 ≤ r0 ∧ r0 ≤ m ∧ r0 ≤ mid ∧ mid + m ≤ b + s0 ∧ (s0 = a ∨ s0 + b = mid + m) ∧ (r0 = m ∨ r0 = mid) ∧ Aside (SWK enc k w0 blk off d wr))
  case first =>
    by_cases hmm : mid < m
    · have hmz : (mid : Int) < (m : Int) := by omega
      have eS : ((mid + m - b : Nat) : Int) = (mid : Int) + (m : Int) - (b : Int) := by omega
      have ES := Lib.hid eS
      clear eS
      go_wp2_with fail
      go_meet
      exact ⟨mid + m - b, mid, by rw [ES.out], rfl, by omega, by omega, by omega, by omega, by omega, .inr (by omega), .inr rfl, S0⟩
    · have hmz : ¬ (mid : Int) < (m : Int) := by omega
      go_wp2_with fail
      go_meet
      exact ⟨a, m, rfl, rfl, Nat.le_refl _, by omega, by omega, by omega, by omega, .inl rfl, .inl rfl, S0⟩
  case rest =>
  obtain ⟨s0, r0, rfl, rfl, q1, q2, q3, q4, q5, q6, q7, S1⟩ := hcut
  clear S0
  go_wp2_with fail
  go_loopg [20, 21] (r0 - s0) (fun kx s20 s21 wr => ∃ (st r : Nat), s20 = .int .i64 st ∧ s21 = .int .i64 r ∧ s0 ≤ st ∧ st ≤ r ∧ r ≤ r0 ∧ r - st ≤ kx ∧ Aside (SWK enc k w0 blk off d wr) ∧ Hid (s0 < st → lt d[mid + m - st]! d[st - 1]! = false) ∧ Hid (r < r0 → lt d[mid + m - r - 1]! d[r]! = true))
  case atStart => exact ⟨s0, r0, rfl, rfl, Nat.le_refl _, q2, Nat.le_refl _, by omega, S1, fun h => by omega, fun h => by omega⟩
  case round =>
    clear S1
    obtain ⟨st, r, rfl, rfl, hi1, hij, hjb, hkx, S1, HA, HB⟩ := hrel
    by_cases hlt : st < r
    · have hltz : (st : Int) < (r : Int) := by omega
      obtain ⟨c, hc⟩ : ∃ c, (st + r) / 2 = c := ⟨_, rfl⟩
      have ecc : ((st : Int) + (r : Int)) / 2 = (c : Int) := by omega
      have hh : st ≤ c ∧ c < r := by omega
      clear hc
      have bc : (c : Int) < (d.size : Int) := by omega
      have pc : (0 : Int) ≤ (c : Int) := by omega
      obtain ⟨pp, hpp⟩ : ∃ pp, mid + m - 1 - c = pp := ⟨_, rfl⟩
      have ew : (mid : Int) + (m : Int) - 1 - (c : Int) = (pp : Int) := by omega
      have rp : IntKind.i64.wrap (pp : Int) = (pp : Int) := by rw [IntKind.wrap_i64]; omega
      have bp : (pp : Int) < (d.size : Int) := by omega
      have pz : (0 : Int) ≤ (pp : Int) := by omega
      have hpp2 : m ≤ pp ∧ pp < b := by omega
      have HPP := Lib.hid hpp
      clear hpp
      obtain ⟨xc, hxc⟩ : ∃ x, d[c]! = x := ⟨_, rfl⟩
      obtain ⟨xp, hxp⟩ : ∃ x, d[pp]! = x := ⟨_, rfl⟩
      have hcr : ltOf cf xp xc = lt xp xc := by rw [← hxc, ← hxp]; exact HP.out.2.2 c _ (by omega) (by omega) (by omega) (by omega)
      have lc := S1.out.ld R hs.symm P c (by omega)
      have lp := S1.out.ld R hs.symm P pp (by omega)
      rw [hxc] at lc
      rw [hxp] at lp
      have hcg := S1.out.cmp HC.out hs.symm xp xc
      have GR : Aside (∀ n os, SWK enc k w0 blk off d (grow (wr.drewN n) os)) := fun n os => S1.out.grown n os
      have HXC := Lib.hid hxc
      have HXP := Lib.hid hxp
      have HCR := Lib.hid hcr
      clear hxc hxp hcr S1
      by_cases hlv : cf xp xc < 0
      · have HB' : Hid (c < r0 → lt d[mid + m - c - 1]! d[c]! = true) := fun _ => by
          rw [show mid + m - c - 1 = pp by have := HPP.out; omega, HXC.out, HXP.out, ← HCR.out]; exact decide_eq_true hlv
        go_wp2_with fail
        go_quiet_grown (first | (go_at_fn g; refine Calls.grown_of (hcg _ _)))
        go_wp2_with fail
        go_roundg (c - st)
        case measure => omega
        case rel => exact ⟨st, c, rfl, rfl, by omega, by omega, by omega, by omega, GR.out nq osq, HA, HB'⟩
      · have HA' : Hid (s0 < c + 1 → lt d[mid + m - (c + 1)]! d[c + 1 - 1]! = false) := fun _ => by
          rw [show mid + m - (c + 1) = pp by have := HPP.out; omega, Nat.add_sub_cancel, HXC.out, HXP.out, ← HCR.out]; exact decide_eq_false hlv
        have hlv2 : decide (cf xp xc < 0) = false := decide_eq_false hlv
        have hlv3 : 0 ≤ cf xp xc := by omega
        go_wp2_with fail
        go_quiet_grown (first | (go_at_fn g; refine Calls.grown_of (hcg _ _)))
        go_wp2_with fail
        go_roundg (r - (c + 1))
        case measure => omega
        case rel => exact ⟨c + 1, r, by first | rfl | go_num, rfl, by omega, by omega, by omega, by omega, GR.out nq osq, HA', HB⟩
    · obtain rfl : st = r := by omega
      have hltz : ¬ (st : Int) < (st : Int) := by omega
      obtain ⟨e, he⟩ : ∃ e, mid + m - st = e := ⟨_, rfl⟩
      have eE : (mid : Int) + (m : Int) - (st : Int) = (e : Int) := by omega
      have he1 : st + e = mid + m := by omega
      have he2 : m ≤ e ∧ e ≤ b := by omega
      rw [he] at HA HB
      clear he
      go_upto_region 39 with (fail)
      go_cut [185] from 178 to 184 (fun s wr' => s = .bool (decide (st < m ∧ m < e)) ∧ Aside (SWK enc k w0 blk off d wr'))
      case first =>
        by_cases hr1 : st < m
        · have hz1 : (st : Int) < (m : Int) := by omega
          by_cases hr2 : m < e
          · have hz2 : (m : Int) < (e : Int) := by omega
            go_wp2_with fail
            go_meet
            exact ⟨by simp [hr1, hr2], S1⟩
          · have hz2 : ¬ (m : Int) < (e : Int) := by omega
            go_wp2_with fail
            go_meet
            exact ⟨by simp [hr2], S1⟩
        · have hz1 : ¬ (st : Int) < (m : Int) := by omega
          go_wp2_with fail
          go_meet
          exact ⟨by simp [hr1], S1⟩
      case rest =>
      clear S1
      obtain ⟨rfl, S1⟩ := hcut
      obtain ⟨bR, hbR⟩ : ∃ bR, decide (st < m ∧ m < e) = bR := ⟨_, rfl⟩
      rw [hbR]
      have HBR := Lib.hid hbR
      clear hbR
      go_upto_if 185 with (fail)
      go_cut [24] from 178 to 191 (fun s24 wr' => s24 = .int .i64 e ∧ Aside (∃ d1 : Array α, SWK enc k w0 blk off d1 wr' ∧ PermIn a b d d1 ∧ ∀ t, d1[t]! = rotG d st m e t))
      case first =>
        cases bR with
        | true =>
          have hr : st < m ∧ m < e := of_decide_eq_true HBR.out
          have hr1 := hr.1
          have hr2 := hr.2
          clear hr
          go_wp2_with fail
          refine (rotate_any k L enc g cb blk off cap st m e d0 d _ _ R hs S1.out hr1 hr2 (by omega) hsz).mono ?_
          rintro ee w1 ⟨rfl, d1, S2, hp, hr⟩
          have HH : Aside (∃ d1 : Array α, SWK enc k w0 blk off d1 w1 ∧ PermIn a b d d1 ∧ ∀ t, d1[t]! = rotG d st m e t) := ⟨d1, S2, permIn_mono _ _ _ _ _ _ (by omega) (by omega) hb hp, hr⟩
          clear S2 hp hr
          go_wp2_with fail
          go_meet
          exact ⟨rfl, HH⟩
        | false =>
          have hr : ¬ (st < m ∧ m < e) := of_decide_eq_false HBR.out
          have HH := fun w' (h : SWK enc k w0 blk off d w') => (show Aside (∃ d1 : Array α, SWK enc k w0 blk off d1 w' ∧ PermIn a b d d1 ∧ ∀ t, d1[t]! = rotG d st m e t) from ⟨d, h, permIn_refl _ _ _, fun t => rot_triv d st m e t (by omega) (by omega) (by omega)⟩)
          clear hr
          go_wp2_with fail
          go_meet
          exact ⟨rfl, HH _ S1.out⟩
      case rest =>
      obtain ⟨rfl, HD⟩ := hcut
      clear S1
      obtain ⟨d1, S1, hp1, hr1⟩ := HD.out
      have hd1 : d1.size = d.size := hp1.1
      have HPT := Lib.hid (sym_parts HP.out.1 HP.out.2.1 (by omega : a ≤ st) (by omega) he2.1 he2.2 he1 hr1)
      have HCX := Lib.hid (sym_cross HSW.out HP.out.1 HP.out.2.1 (by omega : a ≤ st) (by omega) he2.1 he2.2 he1 hr1 HA.out HB.out (by omega) (by omega) hi1 hjb)
      have HPR : Hid (SymPre cf lt d1 a st mid ∧ SymPre cf lt d1 mid e b) := by
        obtain ⟨z1, z2, z3, z4⟩ := HPT.out
        have hX := HP.out.2.2
        refine ⟨⟨z1, z2, fun i j y1 y2 y3 y4 => ?_⟩, ⟨z3, z4, fun i j y1 y2 y3 y4 => ?_⟩⟩
        · rw [hr1, hr1, rotG, rotG, if_pos (by omega), if_neg (by omega), if_neg (by omega)]
          exact hX _ _ (by omega) (by omega) (by omega) (by omega)
        · rw [hr1, hr1, rotG, rotG, if_neg (by omega), if_neg (by omega), if_neg (by omega), if_pos (by omega)]
          exact hX _ _ (by omega) (by omega) (by omega) (by omega)
      have HP1 := Lib.hid hp1
      have S1' : Aside (SWK enc k w0 blk off d1 wc) := S1
      clear hp1 hr1 S1 HD HBR HA HB
      go_upto_region 41 with (fail)
      go_cut [199] from 192 to 198 (fun s wr' => s = .bool (decide (a < st ∧ st < mid)) ∧ Aside (SWK enc k w0 blk off d1 wr'))
      case first =>
        by_cases hr1 : a < st
        · have hz1 : (a : Int) < (st : Int) := by omega
          by_cases hr2 : st < mid
          · have hz2 : (st : Int) < (mid : Int) := by omega
            go_wp2_with fail
            go_meet
            exact ⟨by simp [hr1, hr2], S1'⟩
          · have hz2 : ¬ (st : Int) < (mid : Int) := by omega
            go_wp2_with fail
            go_meet
            exact ⟨by simp [hr2], S1'⟩
        · have hz1 : ¬ (a : Int) < (st : Int) := by omega
          go_wp2_with fail
          go_meet
          exact ⟨by simp [hr1], S1'⟩
      case rest =>
      clear S1'
      obtain ⟨rfl, S1⟩ := hcut
      obtain ⟨bR, hbR⟩ : ∃ bR, decide (a < st ∧ st < mid) = bR := ⟨_, rfl⟩
      rw [hbR]
      have HBR := Lib.hid hbR
      clear hbR
      go_upto_if 199 with (fail)
      go_cut [24] from 192 to 205 (fun s24 wr' => s24 = .int .i64 e ∧ Aside (∃ d2 : Array α, SWK enc k w0 blk off d2 wr' ∧ PermIn a mid d1 d2 ∧ SortedIn lt a mid d2))
      case first =>
        cases bR with
        | true =>
          have hr : a < st ∧ st < mid := of_decide_eq_true HBR.out
          have hr1 := hr.1
          have hr2 := hr.2
          clear hr
          have hcall := HIH.out a st mid d1 _ (by omega) (by omega) S1.out hr1 hr2 (by omega) HPR.out.1
          rw [hd1] at hcall
          have HCALL := Lib.hid hcall
          clear hcall
          go_wp2_with fail
          refine HCALL.out.mono ?_
          rintro ee w1 ⟨rfl, d2, S2, hp, hr⟩
          have HH : Aside (∃ d2 : Array α, SWK enc k w0 blk off d2 w1 ∧ PermIn a mid d1 d2 ∧ SortedIn lt a mid d2) := ⟨d2, S2, hp, hr⟩
          clear S2 hp hr
          go_wp2_with fail
          go_meet
          exact ⟨rfl, HH⟩
        | false =>
          have hr : ¬ (a < st ∧ st < mid) := of_decide_eq_false HBR.out
          have hsrt : SortedIn lt a mid d1 := by
            rcases Nat.lt_or_ge a st with h | h
            · have : st = mid := by omega
              rw [← this]; exact HPT.out.1
            · have : a = st := by omega
              rw [this]; exact HPT.out.2.1
          have HH := fun w' (h : SWK enc k w0 blk off d1 w') => (show Aside (∃ d2 : Array α, SWK enc k w0 blk off d2 w' ∧ PermIn a mid d1 d2 ∧ SortedIn lt a mid d2) from ⟨d1, h, permIn_refl _ _ _, hsrt⟩)
          clear hr hsrt
          go_wp2_with fail
          go_meet
          exact ⟨rfl, HH _ S1.out⟩
      case rest =>
      obtain ⟨rfl, HD⟩ := hcut
      clear S1 HBR
      obtain ⟨d2, S2, hp2, hs2⟩ := HD.out
      have hd2 : d2.size = d.size := hp2.1.trans hd1
      have HPR2 : Hid (SymPre cf lt d2 mid e b) := by
        obtain ⟨z3, z4, hX⟩ := HPR.out.2
        refine ⟨fun i j y1 y2 y3 => ?_, fun i j y1 y2 y3 => ?_, fun i j y1 y2 y3 y4 => ?_⟩
        · rw [perm_out hp2 (.inr y1), perm_out hp2 (.inr (by omega))]; exact z3 i j y1 y2 y3
        · rw [perm_out hp2 (.inr (by omega)), perm_out hp2 (.inr (by omega))]; exact z4 i j y1 y2 y3
        · rw [perm_out hp2 (.inr (by omega)), perm_out hp2 (.inr (by omega))]; exact hX i j y1 y2 y3 y4
      have HP2 := Lib.hid hp2
      have HS2 := Lib.hid hs2
      have S2' : Aside (SWK enc k w0 blk off d2 wc) := S2
      clear hp2 hs2 S2 HD
      have hfin : ∀ d3 w', SWK enc k w0 blk off d3 w' → PermIn mid b d2 d3 → SortedIn lt mid b d3 → ∃ d' : Array α, SWK enc k w0 blk off d' w' ∧ PermIn a b d d' ∧ SortedIn lt a b d' := fun d3 w' hs3 hp3 ho3 => by
        obtain ⟨f1, f2⟩ := sym_whole (by omega) (by omega) (by omega) HCX.out HP2.out HS2.out hp3 ho3
        exact ⟨d3, hs3, permIn_trans _ _ _ _ _ HP1.out f2, f1⟩
      have HFIN := Lib.hid hfin
      clear hfin
      go_upto_region 43 with (fail)
      go_cut [213] from 206 to 212 (fun s wr' => s = .bool (decide (mid < e ∧ e < b)) ∧ Aside (SWK enc k w0 blk off d2 wr'))
      case first =>
        by_cases hr1 : mid < e
        · have hz1 : (mid : Int) < (e : Int) := by omega
          by_cases hr2 : e < b
          · have hz2 : (e : Int) < (b : Int) := by omega
            go_wp2_with fail
            go_meet
            exact ⟨by simp [hr1, hr2], S2'⟩
          · have hz2 : ¬ (e : Int) < (b : Int) := by omega
            go_wp2_with fail
            go_meet
            exact ⟨by simp [hr2], S2'⟩
        · have hz1 : ¬ (mid : Int) < (e : Int) := by omega
          go_wp2_with fail
          go_meet
          exact ⟨by simp [hr1], S2'⟩
      case rest =>
      clear S2'
      obtain ⟨rfl, S2⟩ := hcut
      by_cases hr : mid < e ∧ e < b
      · rw [decide_eq_true hr]
        have hcall := HIH.out mid e b d2 _ (by omega) (by omega) S2.out hr.1 hr.2 (by omega) HPR2.out
        rw [hd2] at hcall
        have HCALL := Lib.hid hcall
        clear hcall hr
        go_wp2_with fail
        refine HCALL.out.mono ?_
        rintro ee w1 ⟨rfl, d3, S3, hp, hs3⟩
        have HH := Lib.hid (HFIN.out d3 w1 S3 hp hs3)
        clear S3 hp hs3
        go_wp2_with fail
        go_end0
        exact ⟨rfl, HH.out⟩
      · rw [decide_eq_false hr]
        have hsrt : SortedIn lt mid b d2 := by
          rcases Nat.lt_or_ge mid e with h | h
          · have : e = b := by omega
            rw [← this]; exact HPR2.out.1
          · have : e = mid := by omega
            rw [← this]; exact HPR2.out.2.1
        have HSRT := Lib.hid hsrt
        clear hr hsrt
        go_wp2_with fail
        go_end0
        exact ⟨rfl, HFIN.out d2 _ S2.out (permIn_refl _ _ _) HSRT.out⟩

theorem sym_any (k : Nat) (L : Lays P k) (enc : α → List Value) (cf : α → α → Int) (lt : α → α → Bool) (Sw : SWO lt) (g : Nat) (cb : Array Value) (blk off cap : Nat) (d0 : Array α) (w0 : World)
    (eg : ∀ args w, (callFunc g args).run P w = .ok (.enter g args) w) (hcmp : CmpLays P g cb enc k cf blk off d0.size w0) (R : RowK enc k w0 blk off d0) (hsz : d0.size < 4611686018427387904) (n : Nat) :
    ∀ (a m b : Nat) (d : Array α) (w : World), b - a ≤ n → d0.size = d.size → SWK enc k w0 blk off d w → a < m → m < b → b ≤ d.size → SymPre cf lt d a m b →
      Calls P 114 #[.slice (some ⟨blk, off, none⟩) d.size cap, .int .i64 a, .int .i64 m, .int .i64 b, .func (.func g) #[] cb] w (SymPost enc k w0 blk off lt d a b) := by
  induction n with
  | zero => intro a m b d w h; omega
  | succ n ih =>
    intro a m b d w hn hs S ham hmb hb hpre
    by_cases h1 : m = a + 1
    · exact sym_left k L enc cf lt Sw g cb blk off cap a m b d0 d w0 w eg hcmp R hs S h1 hmb hb (by omega) hpre.2.1 hpre.2.2
    · by_cases h2 : b = m + 1
      · exact sym_right k L enc cf lt Sw g cb blk off cap a m b d0 d w0 w eg hcmp R hs S (by omega) h2 hb (by omega) hpre.1 hpre.2.2
      · exact sym_main k L enc cf lt Sw g cb blk off cap a m b d0 d w0 w eg hcmp R hs S (by omega) (by omega) hb (by omega) hpre
          (fun a' m' b' d' w' hlt hs' S' h3 h4 h5 hp' => ih a' m' b' d' w' (by omega) hs' S' h3 h4 h5 hp')
end SM
end Go.Proofs.Ythgkgjcnmahacaa
end

section
/- The stable sort by blocks: what holds of the blocks from stage to stage. Plain. -/
set_option linter.unusedSimpArgs false
set_option linter.unusedVariables false
namespace Go.Proofs.Ythgkgjcnmahacaa
open Go.Sort Go.Proofs
variable {α : Type} [Inhabited α] {lt l1 l2 : α → α → Bool}

theorem insInner_congr (a : Nat) : ∀ (j : Nat) (d : Array α), j < d.size → (∀ t, a ≤ t → t < j → l1 d[j]! d[t]! = l2 d[j]! d[t]!) → insInner l1 a j d = insInner l2 a j d
  | 0, _, _, _ => rfl
  | j + 1, d, hj, h => by
    unfold insInner
    by_cases ha : j + 1 > a
    · rw [h j (by omega) (by omega), insInner_congr a j (swp d (j + 1) j) (by rw [size_swp]; omega) (fun t h1 h2 => by
        rw [swp_get d hj (by omega), swp_get d hj (by omega), if_pos rfl, if_neg (by omega), if_neg (by omega)]
        exact h t h1 (by omega))]
    · simp [ha]
theorem insInner_perm (l : α → α → Bool) (a hi : Nat) : ∀ (j : Nat) (d : Array α), j < hi → hi ≤ d.size → PermIn a hi d (insInner l a j d)
  | 0, _, _, _ => permIn_refl _ _ _
  | j + 1, d, hj, h => by
    unfold insInner
    split
    · rename_i hc
      simp only [Bool.and_eq_true, decide_eq_true_eq] at hc
      exact permIn_trans _ _ _ _ _ (swp_permIn d a hi (j + 1) j (by omega) hj (by omega) (by omega) h) (insInner_perm l a hi j _ (by omega) (by rw [size_swp]; exact h))
    · exact permIn_refl _ _ _
theorem insOuter_congr (a b : Nat) : ∀ (n i : Nat) (d : Array α), b - i ≤ n → a < i → b ≤ d.size → (∀ s t, a ≤ s → s < t → i ≤ t → t < b → l1 d[t]! d[s]! = l2 d[t]! d[s]!) → insOuter l1 a b i d = insOuter l2 a b i d
  | 0, i, d, hn, _, _, _ => by rw [insOuter_stop l1 a b i d (by omega), insOuter_stop l2 a b i d (by omega)]
  | n + 1, i, d, hn, ha, hb, h => by
    by_cases hi : i < b
    · rw [insOuter_go l1 a b i d hi, insOuter_go l2 a b i d hi, insInner_congr a i d (by omega) (fun t h1 h2 => h t i h1 h2 (Nat.le_refl _) hi)]
      have hp := insInner_perm l2 a (i + 1) i d (by omega) (by omega)
      refine insOuter_congr a b n (i + 1) _ (by omega) (by omega) (by rw [hp.1]; exact hb) (fun s t h1 h2 h3 h4 => ?_)
      rw [hp.2.1 t (.inr h3)]
      by_cases hs : s < i + 1
      · exact permIn_all d _ a (i + 1) (fun v => l1 d[t]! v = l2 d[t]! v) (by omega) hp (fun x x1 x2 => h x t x1 (by omega) (by omega) h4) s h1 hs
      · rw [hp.2.1 s (.inr (by omega))]; exact h s t h1 h2 (by omega) h4
    · rw [insOuter_stop l1 a b i d hi, insOuter_stop l2 a b i d hi]
theorem ins_stable (S : SWO lt) {cf : α → α → Int} {d : Array α} {a b : Nat} (hab : a ≤ b) (hb : b ≤ d.size) (h : ∀ s t, a ≤ s → s < t → t < b → ltOf cf d[t]! d[s]! = lt d[t]! d[s]!) :
    PermIn a b d (insertionSort (ltOf cf) d a b) ∧ SortedIn lt a b (insertionSort (ltOf cf) d a b) := by
  have e : insertionSort (ltOf cf) d a b = insertionSort lt d a b := insOuter_congr a b (b - (a + 1)) (a + 1) d (Nat.le_refl _) (by omega) hb (fun s t h1 h2 h3 h4 => h s t h1 h2 h4)
  rw [e]
  exact insertionSort_holds S d a b hab hb

/-- A block: sorted, and of its own places' elements. -/
def OKb (lt : α → α → Bool) (tg : α → Nat) (d : Array α) (lo hi : Nat) : Prop := SortedIn lt lo hi d ∧ ∀ t, lo ≤ t → t < hi → lo ≤ tg d[t]! ∧ tg d[t]! < hi

theorem OKb.out {tg : α → Nat} {d d' : Array α} {lo hi a b : Nat} (h : OKb lt tg d lo hi) (hp : PermIn a b d d') (ho : hi ≤ a ∨ b ≤ lo) : OKb lt tg d' lo hi := by
  refine ⟨fun i j h1 h2 h3 => ?_, fun t h1 h2 => ?_⟩
  · rw [hp.2.1 i (by omega), hp.2.1 j (by omega)]; exact h.1 i j h1 h2 h3
  · rw [hp.2.1 t (by omega)]; exact h.2 t h1 h2
theorem OKb.tags {tg : α → Nat} {d d' : Array α} {lo hi : Nat} (hb : hi ≤ d.size) (hp : PermIn lo hi d d') (hs : SortedIn lt lo hi d') (h : ∀ t, lo ≤ t → t < hi → lo ≤ tg d[t]! ∧ tg d[t]! < hi) : OKb lt tg d' lo hi :=
  ⟨hs, permIn_all d d' lo hi (fun v => lo ≤ tg v ∧ tg v < hi) hb hp h⟩
theorem OKb.cross {tg : α → Nat} {cf : α → α → Int} (hc : ∀ x y, tg x < tg y → ltOf cf y x = lt y x) {d : Array α} {a m b : Nat} (h1 : OKb lt tg d a m) (h2 : OKb lt tg d m b) :
    ∀ i j, a ≤ i → i < m → m ≤ j → j < b → ltOf cf d[j]! d[i]! = lt d[j]! d[i]! := fun i j y1 y2 y3 y4 =>
  hc _ _ (by have := (h1.2 i y1 y2).2; have := (h2.2 j y3 y4).1; omega)
theorem OKb.join {tg : α → Nat} {d d' : Array α} {a m b : Nat} (hm : a ≤ m) (hmb : m ≤ b) (hb : b ≤ d.size) (h1 : OKb lt tg d a m) (h2 : OKb lt tg d m b) (hp : PermIn a b d d') (hs : SortedIn lt a b d') : OKb lt tg d' a b :=
  OKb.tags hb hp hs (fun t y1 y2 => by
    by_cases h : t < m
    · have := h1.2 t y1 h; omega
    · have := h2.2 t (by omega) y2; omega)

/-- All blocks of size bs from the q-th on. -/
def BlkFrom (lt : α → α → Bool) (tg : α → Nat) (bs n q0 : Nat) (d : Array α) : Prop := ∀ q, q0 ≤ q → q * bs < n → OKb lt tg d (q * bs) (min (q * bs + bs) n)
/-- All blocks of size bs ahead of the q-th. -/
def BlkTo (lt : α → α → Bool) (tg : α → Nat) (bs n q0 : Nat) (d : Array α) : Prop := ∀ q, q < q0 → q * bs < n → OKb lt tg d (q * bs) (min (q * bs + bs) n)

theorem BlkTo.step {tg : α → Nat} {bs n q : Nat} {d d' : Array α} (h : BlkTo lt tg bs n q d) (hp : PermIn (q * bs) (min (q * bs + bs) n) d d') (hn : OKb lt tg d' (q * bs) (min (q * bs + bs) n)) : BlkTo lt tg bs n (q + 1) d' := by
  intro p hpq hpn
  by_cases e : p = q
  · rw [e]; exact hn
  · refine (h p (by omega) hpn).out hp (.inl ?_)
    have : (p + 1) * bs ≤ q * bs := Nat.mul_le_mul_right _ (by omega)
    rw [Nat.add_mul, Nat.one_mul] at this
    exact Nat.le_trans (Nat.min_le_left _ _) this
theorem BlkFrom.step {tg : α → Nat} {bs n q hi : Nat} {d d' : Array α} {lo : Nat} (h : BlkFrom lt tg bs n q d) (hp : PermIn lo hi d d') (q' : Nat) (hq : q ≤ q') (hhi : hi ≤ q' * bs) : BlkFrom lt tg bs n q' d' := by
  intro p hpq hpn
  refine (h p (by omega) hpn).out hp (.inr ?_)
  exact Nat.le_trans hhi (Nat.mul_le_mul_right _ hpq)
theorem BlkTo.all {tg : α → Nat} {bs n q : Nat} {d : Array α} (h : BlkTo lt tg bs n q d) (hq : n ≤ q * bs) : BlkFrom lt tg bs n 0 d := fun p _ hpn => h p (by
  apply Nat.lt_of_not_le
  intro hc
  have := Nat.mul_le_mul_right bs hc
  omega) hpn

section
variable {tg : α → Nat} {cf : α → α → Int} {d d0 : Array α} {n q bs a : Nat}

/-- The stage of the insertions. -/
def Stage1 (lt : α → α → Bool) (tg : α → Nat) (d0 d : Array α) (n q a : Nat) : Prop :=
  a = q * 20 ∧ BlkTo lt tg 20 n q d ∧ (∀ t, a ≤ t → d[t]! = d0[t]!) ∧ PermIn 0 n d0 d

theorem stage1_start (lt : α → α → Bool) (tg : α → Nat) (d0 : Array α) (n : Nat) : Stage1 lt tg d0 d0 n 0 0 :=
  ⟨rfl, fun q h => by omega, fun _ _ => rfl, permIn_refl _ _ _⟩
theorem stage1_ins (S : SWO lt) (hc : ∀ x y, tg x < tg y → ltOf cf y x = lt y x) (h0 : ∀ t, t < n → tg d0[t]! = t) (h : Stage1 lt tg d0 d n q a) (b : Nat) (hab : a ≤ b) (hbn : b ≤ n) (hn : n ≤ d.size) (hq : b = min (a + 20) n) :
    (insertionSort (ltOf cf) d a b).size = d.size ∧ (b = a + 20 → Stage1 lt tg d0 (insertionSort (ltOf cf) d a b) n (q + 1) (a + 20)) ∧ (b = n → BlkFrom lt tg 20 n 0 (insertionSort (ltOf cf) d a b) ∧ PermIn 0 n d0 (insertionSort (ltOf cf) d a b)) := by
  obtain ⟨rfl, hB, hE, hP⟩ := h
  have htag : ∀ t, q * 20 ≤ t → t < b → tg d[t]! = t := fun t h1 h2 => by rw [hE t h1]; exact h0 t (by omega)
  obtain ⟨p1, p2⟩ := ins_stable (d := d) S hab (by omega) (fun s t h1 h2 h3 => hc _ _ (by rw [htag s h1 (by omega), htag t (by omega) h3]; exact h2))
  have hok := OKb.tags (tg := tg) (by omega) p1 p2 (fun t h1 h2 => by rw [htag t h1 h2]; omega)
  have hB' : BlkTo lt tg 20 n (q + 1) (insertionSort (ltOf cf) d (q * 20) b) := hB.step (by rw [← hq]; exact p1) (by rw [← hq]; exact hok)
  have hP' : PermIn 0 n d0 (insertionSort (ltOf cf) d (q * 20) b) := permIn_trans _ _ _ _ _ hP (permIn_mono _ _ _ _ _ _ (Nat.zero_le _) hbn hn p1)
  exact ⟨p1.1, fun hb => ⟨by omega, hB', fun t ht => by rw [p1.2.1 t (.inr (by omega))]; exact hE t (by omega), hP'⟩, fun hb => ⟨hB'.all (by omega), hP'⟩⟩

/-- The stage of the merges, within a round. -/
def Stage2 (lt : α → α → Bool) (tg : α → Nat) (d0 d : Array α) (n bs q a : Nat) : Prop :=
  a = q * (2 * bs) ∧ BlkTo lt tg (2 * bs) n q d ∧ BlkFrom lt tg bs n (2 * q) d ∧ PermIn 0 n d0 d

theorem two_q (q bs : Nat) : 2 * q * bs = q * (2 * bs) := by rw [Nat.mul_comm 2 q, Nat.mul_assoc]
theorem two_q1 (q bs : Nat) : (2 * q + 1) * bs = q * (2 * bs) + bs := by rw [Nat.add_mul, Nat.one_mul, two_q]
theorem two_q2 (q bs : Nat) : (q + 1) * (2 * bs) = q * (2 * bs) + 2 * bs := by rw [Nat.add_mul, Nat.one_mul]

theorem stage2_start {lt : α → α → Bool} {tg : α → Nat} {d0 d : Array α} {n bs : Nat} (h : BlkFrom lt tg bs n 0 d) (hP : PermIn 0 n d0 d) : Stage2 lt tg d0 d n bs 0 0 :=
  ⟨by simp, fun q h => by omega, h, hP⟩
/-- What the merge of the q-th pair is handed. -/
theorem stage2_pre (hc : ∀ x y, tg x < tg y → ltOf cf y x = lt y x) (h : Stage2 lt tg d0 d n bs q a) (b : Nat) (hb : b = min (a + 2 * bs) n) (hm : a + bs < n) :
    SortedIn lt a (a + bs) d ∧ SortedIn lt (a + bs) b d ∧ (∀ i j, a ≤ i → i < a + bs → a + bs ≤ j → j < b → ltOf cf d[j]! d[i]! = lt d[j]! d[i]!) ∧ OKb lt tg d a (a + bs) ∧ OKb lt tg d (a + bs) b := by
  obtain ⟨rfl, hT, hF, hP⟩ := h
  have h1 := hF (2 * q) (Nat.le_refl _) (by rw [two_q]; omega)
  have h2 := hF (2 * q + 1) (by omega) (by rw [two_q1]; omega)
  rw [two_q, Nat.min_eq_left (by omega)] at h1
  rw [two_q1, show min (q * (2 * bs) + bs + bs) n = b by omega] at h2
  exact ⟨h1.1, h2.1, h1.cross hc h2, h1, h2⟩
theorem stage2_step (hbs : 0 < bs) (h : Stage2 lt tg d0 d n bs q a) (b : Nat) (hb : b = min (a + 2 * bs) n) (hm : a + bs < n) (hn : n ≤ d.size) {d' : Array α} (ok1 : OKb lt tg d a (a + bs)) (ok2 : OKb lt tg d (a + bs) b) (hp : PermIn a b d d') (hs : SortedIn lt a b d') :
    (b = a + 2 * bs → Stage2 lt tg d0 d' n bs (q + 1) b) ∧ BlkTo lt tg (2 * bs) n (q + 1) d' ∧ PermIn 0 n d0 d' := by
  obtain ⟨rfl, hT, hF, hP⟩ := h
  have hj := OKb.join (by omega) (by omega) (by omega) ok1 ok2 hp hs
  have hT' : BlkTo lt tg (2 * bs) n (q + 1) d' := hT.step (by rw [← hb]; exact hp) (by rw [← hb]; exact hj)
  have hP' : PermIn 0 n d0 d' := permIn_trans _ _ _ _ _ hP (permIn_mono _ _ _ _ _ _ (Nat.zero_le _) (by omega) hn hp)
  exact ⟨fun e => ⟨by rw [two_q2]; exact e, hT', hF.step hp (2 * (q + 1)) (by omega) (by rw [two_q, two_q2]; omega), hP'⟩, hT', hP'⟩
/-- No second block is left. -/
theorem stage2_none (h : Stage2 lt tg d0 d n bs q a) (hm : n ≤ a + bs) : BlkTo lt tg (2 * bs) n (q + 1) d := by
  obtain ⟨rfl, hT, hF, hP⟩ := h
  intro p hp hpn
  by_cases e : p = q
  · subst e
    have h1 := hF (2 * p) (Nat.le_refl _) (by rw [two_q]; exact hpn)
    rw [two_q, Nat.min_eq_right (by omega)] at h1
    rw [Nat.min_eq_right (by omega)]
    exact h1
  · exact hT p (by omega) hpn
theorem stage2_end {d : Array α} (h : BlkTo lt tg (2 * bs) n (q + 1) d) (hq : n ≤ q * (2 * bs) + 2 * bs) : BlkFrom lt tg (2 * bs) n 0 d := h.all (by rw [two_q2]; exact hq)
theorem blk_sorted {d : Array α} (h : BlkFrom lt tg bs n 0 d) (hb : n ≤ bs) : SortedIn lt 0 n d := by
  intro i j h1 h2 h3
  have := h 0 (Nat.le_refl _) (by omega)
  rw [Nat.zero_mul, Nat.zero_add, Nat.min_eq_right hb] at this
  exact this.1 i j h1 h2 h3
end
end Go.Proofs.Ythgkgjcnmahacaa
end
