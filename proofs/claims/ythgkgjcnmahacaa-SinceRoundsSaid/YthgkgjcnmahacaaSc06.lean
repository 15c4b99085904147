import Derived.Test.YthgkgjcnmahacaaSc05
/- The symmetric merge where the right is one element: it is laid into the left. -/
set_option linter.unusedSimpArgs false
set_option linter.unusedVariables false
namespace Go.Proofs.Ythgkgjcnmahacaa
open Go.Shelf Go.RowKit Go.Lib Go.Sort
namespace SM
variable {P : Program} {α : Type} [Inhabited α]

set_option maxHeartbeats 4000000 in
set_option maxRecDepth 1000000 in
theorem sym_right (k : Nat) (L : Lays P k) (enc : α → List Value) (cf : α → α → Int) (lt : α → α → Bool) (Sw : SWO lt) (g : Nat) (cb : Array Value) (blk off cap a m b : Nat) (d0 d : Array α) (w0 w : World)
    (eg : ∀ args w, (callFunc g args).run P w = .ok (.enter g args) w) (hcmp : CmpLays P g cb enc k cf blk off d0.size w0)
    (R : RowK enc k w0 blk off d0) (hs : d0.size = d.size) (S : SWK enc k w0 blk off d w) (ham : a + 1 < m) (hmb : b = m + 1) (hb : b ≤ d.size) (hsz : d.size < 4611686018427387904)
    (h1 : SortedIn lt a m d) (hx : ∀ i j, a ≤ i → i < m → m ≤ j → j < b → ltOf cf d[j]! d[i]! = lt d[j]! d[i]!) :
    Calls P 114 #[.slice (some ⟨blk, off, none⟩) d.size cap, .int .i64 a, .int .i64 m, .int .i64 b, .func (.func g) #[] cb] w (SymPost enc k w0 blk off lt d a b) := by
  have mixed := L.mixed; have aE := L.aE; have zE := L.zE; have t0 := L.t0; have a0 := L.a0; have z0 := L.z0; have v0 := L.v0; have t3 := L.t3; have a3 := L.a3; have z3 := L.z3; have v3 := L.v3; have t4 := L.t4; have a4 := L.a4; have z4 := L.z4; have v4 := L.v4; have tu := L.tu; have au := L.au; have zu := L.zu; have vu := L.vu; have tS := L.tS; have aS := L.aS; have zS := L.zS; have vS := L.vS; have tC := L.tC; have aC := L.aC; have zC := L.zC; have vC := L.vC
  have FG := L.fSym
  have S0 : Aside (SWK enc k w0 blk off d w) := S
  have HC : Aside _ := hcmp
  have HSW := Lib.hid Sw
  have HX := Lib.hid hx
  have H1 := Lib.hid h1
  clear S hcmp Sw hx h1
  subst hmb
  have hone : ((m : Int) - (a : Int) == 1) = false := by rw [beq_eq_false_iff_ne]; omega
  have hone2 : (((m + 1 : Nat) : Int) - (m : Int) == 1) = true := by rw [beq_iff_eq]; omega
  have hone3 : ((m : Int) + 1 - (m : Int) == 1) = true := by rw [beq_iff_eq]; omega
  go_enter FG, Try.ntmps114
  go_wp2_with fail
  go_loopg [14, 15] (m - a) (fun kx s10 s11 wr => ∃ (i j : Nat), s10 = .int .i64 i ∧ s11 = .int .i64 j ∧ a ≤ i ∧ i ≤ j ∧ j ≤ m ∧ j - i ≤ kx ∧ Aside (SWK enc k w0 blk off d wr) ∧ Hid (a < i → lt d[m]! d[i - 1]! = false) ∧ Hid (j < m → lt d[m]! d[j]! = true))
  case atStart => exact ⟨a, m, rfl, rfl, Nat.le_refl _, by omega, Nat.le_refl _, by omega, S0, fun h => by omega, fun h => by omega⟩
  case round =>
    clear S0
    obtain ⟨i, j, rfl, rfl, hi1, hij, hjb, hkx, S1, HA, HB⟩ := hrel
    by_cases hlt : i < j
    · have hltz : (i : Int) < (j : Int) := by omega
      have eh : (((i : Int) + (j : Int)) / 2).toNat = (i + j) / 2 := by omega
      have ph : (0 : Int) ≤ ((i : Int) + (j : Int)) / 2 := by omega
      have bh : ((i : Int) + (j : Int)) / 2 < (d.size : Int) := by omega
      have ba : (m : Int) < (d.size : Int) := by omega
      have pa : (0 : Int) ≤ (m : Int) := by omega
      have hh : i ≤ (i + j) / 2 ∧ (i + j) / 2 < j := by omega
      obtain ⟨xh, hxh⟩ : ∃ x, d[(i + j) / 2]! = x := ⟨_, rfl⟩
      obtain ⟨xa, hxa⟩ : ∃ x, d[m]! = x := ⟨_, rfl⟩
      have hcr : ltOf cf xa xh = lt xa xh := by rw [← hxh, ← hxa]; exact HX.out _ m (by omega) (by omega) (Nat.le_refl _) (by omega)
      have lh := S1.out.ld R hs.symm P ((i + j) / 2) (by omega)
      have la := S1.out.ld R hs.symm P m (by omega)
      rw [hxh] at lh
      rw [hxa] at la
      have hcg := S1.out.cmp HC.out hs.symm xa xh
      have GR : Aside (∀ n os, SWK enc k w0 blk off d (grow (wr.drewN n) os)) := fun n os => S1.out.grown n os
      have HXH := Lib.hid hxh
      have HXA := Lib.hid hxa
      have HCR := Lib.hid hcr
      clear hxh hxa hcr S1
      by_cases hlv : cf xa xh < 0
      · have HB' : Hid ((i + j) / 2 < m → lt d[m]! d[(i + j) / 2]! = true) := fun _ => by
          rw [HXH.out, HXA.out, ← HCR.out]; exact decide_eq_true hlv
        go_wp2_with fail
        go_quiet_grown (first | (go_at_fn g; refine Calls.grown_of (hcg _ _)))
        go_wp2_with fail
        go_roundg ((i + j) / 2 - i)
        case measure => omega
        case rel => exact ⟨i, (i + j) / 2, rfl, by first | rfl | (congr 1; omega), by omega, by omega, by omega, by omega, GR.out nq osq, HA, HB'⟩
      · have HA' : Hid (a < (i + j) / 2 + 1 → lt d[m]! d[(i + j) / 2 + 1 - 1]! = false) := fun _ => by
          rw [Nat.add_sub_cancel, HXH.out, HXA.out, ← HCR.out]; exact decide_eq_false hlv
        have hlv2 : decide (cf xa xh < 0) = false := decide_eq_false hlv
        have hlv3 : 0 ≤ cf xa xh := by omega
        go_wp2_with fail
        go_quiet_grown (first | (go_at_fn g; refine Calls.grown_of (hcg _ _)))
        go_wp2_with fail
        go_roundg (j - ((i + j) / 2 + 1))
        case measure => omega
        case rel => exact ⟨(i + j) / 2 + 1, j, by first | rfl | (congr 1; omega), rfl, by omega, by omega, by omega, by omega, GR.out nq osq, HA', HB⟩
    · obtain rfl : i = j := by omega
      have hltz : ¬ (i : Int) < (i : Int) := by omega
      have HI := Lib.hid (ins_right HSW.out H1.out hi1 hjb (by omega) HA.out HB.out)
      go_wp2_with fail
      go_loopg [17] (m - i) (fun kx s13 wr2 => ∃ c : Nat, s13 = .int .i64 ((m - c : Nat) : Int) ∧ c ≤ m - i ∧ m - i - c ≤ kx ∧ Aside (SWK enc k w0 blk off (bubDn d m c) wr2))
      case atStart => exact ⟨0, rfl, Nat.zero_le _, by omega, S1⟩
      case round =>
        clear S1
        obtain ⟨c, rfl, hc, hkx2, S1⟩ := hrel
        by_cases hlt2 : c < m - i
        · have hds : (bubDn d m c).size = d.size := size_bubDn _ _ _
          generalize hdk : bubDn d m c = dk at S1 hds
          have HDK := Lib.hid hdk
          clear hdk
          have HSTEP : Hid (swp dk (m - c) (m - c - 1) = bubDn d m (c + 1)) := by unfold Hid; rw [bubDn, HDK.out]
          obtain ⟨ac, hac⟩ : ∃ ac, m - c = ac + 1 := ⟨m - c - 1, by omega⟩
          rw [hac, Nat.add_sub_cancel] at HSTEP
          rw [hac]
          have hacl : ac + 1 < d.size := by omega
          have hiac : i ≤ ac := by omega
          have HAC := Lib.hid hac
          clear hac
          have hltz2 : (i : Int) < ((ac + 1 : Nat) : Int) := by omega
          have hltz3 : (i : Int) < (ac : Int) + 1 := by omega
          have ea44 : ((ac : Int) + 1).toNat = ac + 1 := by omega
          have pa44 : (0 : Int) ≤ (ac : Int) + 1 := by omega
          have ba44 : (ac : Int) + 1 < (d.size : Int) := by omega
          have pc44 : (0 : Int) ≤ (ac : Int) := by omega
          have bc44 : (ac : Int) < (d.size : Int) := by omega
          have em44 : (ac : Int) + 1 - 1 = (ac : Int) := by omega
          go_wp2_with fail
          have S2 : Aside (SWK enc k w0 blk off (swp dk (ac + 1) ac) ((wr.drew.setCells blk (off + (ac + 1) * k) (enc dk[ac]!)).setCells blk (off + ac * k) (enc dk[ac + 1]!))) := S1.out.swapped R (ac + 1) ac (by omega) (by omega)
          have l44a := S1.out.ld1 R (by omega) P (ac + 1) (by omega)
          have l44b := S1.out.ld1 R (by omega) P ac (by omega)
          have s44a := S1.out.st1 R (by omega) P (ac + 1) (by omega) dk[ac]!
          have s44b := S1.out.st2 R (by omega) P (ac + 1) ac (by omega) (by omega) dk[ac]! dk[ac + 1]!
          have n44a : (enc dk[ac + 1]!).length = k := R.hk _
          have n44b : (enc dk[ac]!).length = k := R.hk _
          generalize enc dk[ac + 1]! = cI44 at S2 l44a s44b n44a
          generalize enc dk[ac]! = cJ44 at S2 l44b s44a s44b n44b
          clear S1
          go_big_region_o
          clear l44a l44b s44a s44b
          generalize (wr.drew.setCells blk (off + (ac + 1) * k) cJ44).setCells blk (off + ac * k) cI44 = w2 at S2 ⊢
          go_wp2
          go_roundg (m - i - (c + 1))
          case measure => have := HAC.out; omega
          case rel => exact ⟨c + 1, by have := HAC.out; first | rfl | (congr 1; omega), by have := HAC.out; omega, by omega, by rw [HSTEP.out] at S2; exact S2⟩
        · obtain rfl : c = m - i := by omega
          have hmi : m - (m - i) = i := by omega
          rw [hmi]
          have hltz2 : ¬ (i : Int) < (i : Int) := by omega
          go_wp2_with fail
          go_end0
          exact ⟨rfl, _, S1.out, bubDn_perm d m _ a (m + 1) (by omega) (by omega) (by omega) hb, HI.out⟩
end SM
end Go.Proofs.Ythgkgjcnmahacaa
