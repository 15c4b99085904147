/- The rotation, as the library's stable sort has it. -/
import Derived.Test.YthgkgjcnmahacaaSortM1
set_option linter.unusedSimpArgs false
set_option linter.unusedVariables false
namespace Go.Proofs.Ythgkgjcnmahacaa
open Go.Shelf Go.RowKit Go.Lib Go.Sort
namespace SM
variable {P : Program} {α : Type} [Inhabited α]

theorem swapRange_z (k : Nat) (L : Lays P k) (enc : α → List Value) (g : Nat) (cb : Array Value) (blk off cap a b n : Nat) (d0 d : Array α) (w0 w : World)
    (R : RowK enc k w0 blk off d0) (hs : d0.size = d.size) (S : SWK enc k w0 blk off d w) (hab : a + n ≤ b) (hb : b + n ≤ d.size) (hsz : d.size < 4611686018427387904) (s : Nat) (az bz nz : Int) (h0 : s = d.size) (h1 : az = a) (h2 : bz = b) (h3 : nz = n) :
    Calls P 147 #[.slice (some ⟨blk, off, none⟩) s cap, .int .i64 az, .int .i64 bz, .int .i64 nz, .func (.func g) #[] cb] w fun e w' => e = .returned (.tuple #[]) ∧ SWK enc k w0 blk off (swr d a b n) w' := by
  subst h0 h1 h2 h3
  exact swapRange_any k L enc g cb blk off cap a b n d0 d w0 w R hs S hab hb hsz

def RotPost (enc : α → List Value) (k : Nat) (w0 : World) (blk off : Nat) (d : Array α) (a m b : Nat) (e : Ending) (w' : World) : Prop :=
  e = .returned (.tuple #[]) ∧ ∃ d' : Array α, SWK enc k w0 blk off d' w' ∧ PermIn a b d d' ∧ ∀ t, d'[t]! = rotG d a m b t

set_option maxHeartbeats 4000000 in
set_option maxRecDepth 1000000 in
theorem rotate_any (k : Nat) (L : Lays P k) (enc : α → List Value) (g : Nat) (cb : Array Value) (blk off cap a m b : Nat) (d0 d : Array α) (w0 w : World)
    (R : RowK enc k w0 blk off d0) (hs : d0.size = d.size) (S : SWK enc k w0 blk off d w) (ham : a < m) (hmb : m < b) (hb : b ≤ d.size) (hsz : d.size < 4611686018427387904) :
    Calls P 134 #[.slice (some ⟨blk, off, none⟩) d.size cap, .int .i64 a, .int .i64 m, .int .i64 b, .func (.func g) #[] cb] w (RotPost enc k w0 blk off d a m b) := by
  have mixed := L.mixed; have aE := L.aE; have zE := L.zE; have t0 := L.t0; have a0 := L.a0; have z0 := L.z0; have v0 := L.v0; have t3 := L.t3; have a3 := L.a3; have z3 := L.z3; have v3 := L.v3; have t4 := L.t4; have a4 := L.a4; have z4 := L.z4; have v4 := L.v4; have tS := L.tS; have aS := L.aS; have zS := L.zS; have vS := L.vS; have tC := L.tC; have aC := L.aC; have zC := L.zC; have vC := L.vC
  have FG := L.fRot
  have eSwap : ∀ args w, (callFunc 147 args).run P w = .ok (.enter 147 args) w := enters_of L.fSwap (by kernel_rfl) rfl
  have S0 : Aside (SWK enc k w0 blk off d w) := S
  have HSW := Lib.hid (fun a b n (d : Array α) w => swapRange_z k L enc g cb blk off cap a b n d0 d w0 w R)
  clear S
  have hslot : Hid (m - (m - a) = a ∧ m + (b - m) = b) := by unfold Hid; omega
  go_enter FG, Try.ntmps134
  go_wp2_with fail
  go_loopg [10, 11] (m - a + (b - m)) (fun kx s10 s11 wr => ∃ (i j : Nat) (dk : Array α), s10 = .int .i64 i ∧ s11 = .int .i64 j ∧ 0 < i ∧ i ≤ m - a ∧ 0 < j ∧ j ≤ b - m ∧ i + j ≤ kx ∧ dk.size = d.size ∧ Aside (SWK enc k w0 blk off dk wr) ∧ Hid (PermIn a b d dk ∧ ∀ t, rotG dk (m - i) m (m + j) t = rotG d a m b t))
  case atStart => exact ⟨m - a, b - m, d, by congr 1; omega, by congr 1; omega, by omega, Nat.le_refl _, by omega, Nat.le_refl _, Nat.le_refl _, rfl, S0, permIn_refl _ _ _, fun t => by rw [hslot.out.1, hslot.out.2]⟩
  case round =>
    clear S0
    obtain ⟨i, j, dk, rfl, rfl, hi0, hi, hj0, hj, hkx, hds, S1, HP⟩ := hrel
    rcases Nat.lt_trichotomy i j with hlt | heq | hgt
    · have hne : ((i : Int) != (j : Int)) = true := by rw [bne_iff_ne]; omega
      have hnz : ¬ (j : Int) < (i : Int) := by omega
      have HX : Hid (PermIn a b d (swr dk (m - i) (m + j - i) i) ∧ ∀ t, rotG (swr dk (m - i) (m + j - i) i) (m - i) m (m + (j - i)) t = rotG d a m b t) :=
        ⟨permIn_trans _ _ _ _ _ HP.out.1 (swr_perm dk _ _ i a b (by omega) (by omega) (by omega) (by omega) (by omega)), fun t => (rot_lt dk m i j t hlt (by omega) (by omega)).trans (HP.out.2 t)⟩
      go_wp2_with fail
      refine (HSW.out (m - i) (m + j - i) i dk _ (by omega) S1.out (by omega) (by omega) (by omega) _ _ _ _ (by omega) (by omega) (by omega) (by omega)).mono ?_
      rintro e w1 ⟨rfl, S2⟩
      go_wp2_with fail
      have S2' : Aside (SWK enc k w0 blk off (swr dk (m - i) (m + j - i) i) w1) := S2
      clear S2
      go_roundg (i + (j - i))
      case measure => omega
      case rel => exact ⟨i, j - i, _, rfl, by congr 1; omega, by omega, by omega, by omega, by omega, by omega, by rw [size_swr]; exact hds, S2', HX⟩
    · subst heq
      have hne : ((i : Int) != (i : Int)) = false := by simp
      have HX : Hid (PermIn a b d (swr dk (m - i) m i) ∧ ∀ t, (swr dk (m - i) m i)[t]! = rotG d a m b t) :=
        ⟨permIn_trans _ _ _ _ _ HP.out.1 (swr_perm dk _ _ i a b (by omega) (by omega) (by omega) (by omega) (by omega)), fun t => (rot_eq dk m i t (by omega) (by omega)).trans (HP.out.2 t)⟩
      go_wp2_with fail
      refine (HSW.out (m - i) m i dk _ (by omega) S1.out (by omega) (by omega) (by omega) _ _ _ _ (by omega) (by omega) (by omega) (by omega)).mono ?_
      rintro e w1 ⟨rfl, S2⟩
      go_wp2_with fail
      go_end0
      exact ⟨rfl, _, S2, HX.out.1, HX.out.2⟩
    · have hne : ((i : Int) != (j : Int)) = true := by rw [bne_iff_ne]; omega
      have hnz : (j : Int) < (i : Int) := by omega
      have HX : Hid (PermIn a b d (swr dk (m - i) m j) ∧ ∀ t, rotG (swr dk (m - i) m j) (m - (i - j)) m (m + j) t = rotG d a m b t) :=
        ⟨permIn_trans _ _ _ _ _ HP.out.1 (swr_perm dk _ _ j a b (by omega) (by omega) (by omega) (by omega) (by omega)), fun t => (rot_gt dk m i j t hgt (by omega) (by omega)).trans (HP.out.2 t)⟩
      go_wp2_with fail
      refine (HSW.out (m - i) m j dk _ (by omega) S1.out (by omega) (by omega) (by omega) _ _ _ _ (by omega) (by omega) (by omega) (by omega)).mono ?_
      rintro e w1 ⟨rfl, S2⟩
      go_wp2_with fail
      have S2' : Aside (SWK enc k w0 blk off (swr dk (m - i) m j) w1) := S2
      clear S2
      go_roundg (i - j + j)
      case measure => omega
      case rel => exact ⟨i - j, j, _, by congr 1; omega, rfl, by omega, by omega, by omega, by omega, by omega, by rw [size_swr]; exact hds, S2', HX⟩
end SM
end Go.Proofs.Ythgkgjcnmahacaa
