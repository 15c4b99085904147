import Derived.Test.YthgkgjcnmahacaaProg
import Derived.Test.YthgkgjcnmahacaaSk05
import Derived.Shelf.SlSortCmp.KitK
import Derived.Sort.WalkB2
import Derived.Sort.WalkB12
import Derived.Deep.LoopGhost
import Derived.WalkKit
import Derived.Lib.Hide
import Derived.Shelf.SlSortCmp.QuietGrown
section
/- The exchange of two ranges, as the library's stable sort has it, at elements of 4 cells. -/
set_option linter.unusedSimpArgs false
set_option linter.unusedVariables false
namespace Go.Proofs.Ythgkgjcnmahacaa
open Go.Shelf Go.RowKit Go.Lib Go.Sort
namespace SP
def ren : Ren := ⟨fun | 20 => 135 | n => n, fun | 24 => 99 | 22 => 96 | 3 => 3 | 25 => 144 | 4 => 4 | 0 => 0 | n => n, fun | n => n⟩

/-- What the walks ask of a program: its bodies, its types. (The element's cells are k, a variable: the walk then takes them by runs.) -/
structure Lays (P : Program) (k : Nat) : Prop where
  mixed : P.follows .mixedOrders = true
  fSwap : P.funcs[150]? = some Try.f150
  fRot : P.funcs[148]? = some Try.f148
  fSym : P.funcs[136]? = some Try.f136
  fStab : P.funcs[118]? = some Try.f118
  fTop : P.funcs[93]? = some Try.f93
  ins : SlLaysF0.n20 P ren
  aE : ∀ w, (isAgg 99).run P w = .ok true w
  zE : ∀ w, (Go.sizeOf 99).run P w = .ok k w
  t0 : P.underlying 0 = some (TypeDesc.tuple #[])
  a0 : ∀ w, (isAgg 0).run P w = .ok false w
  z0 : ∀ w, (Go.sizeOf 0).run P w = .ok 1 w
  v0 : ∀ w, (zeroValue 0).run P w = .ok (Value.tuple #[]) w
  t3 : P.underlying 3 = some (TypeDesc.int IntKind.i64)
  a3 : ∀ w, (isAgg 3).run P w = .ok false w
  z3 : ∀ w, (Go.sizeOf 3).run P w = .ok 1 w
  v3 : ∀ w, (zeroValue 3).run P w = .ok (Value.int IntKind.i64 0) w
  t4 : P.underlying 4 = some (TypeDesc.bool)
  a4 : ∀ w, (isAgg 4).run P w = .ok false w
  z4 : ∀ w, (Go.sizeOf 4).run P w = .ok 1 w
  v4 : ∀ w, (zeroValue 4).run P w = .ok (Value.bool false) w
  tu : P.underlying 161 = some (TypeDesc.int IntKind.u64)
  au : ∀ w, (isAgg 161).run P w = .ok false w
  zu : ∀ w, (Go.sizeOf 161).run P w = .ok 1 w
  vu : ∀ w, (zeroValue 161).run P w = .ok (Value.int IntKind.u64 0) w
  tS : P.underlying 96 = some (TypeDesc.slice 99)
  aS : ∀ w, (isAgg 96).run P w = .ok false w
  zS : ∀ w, (Go.sizeOf 96).run P w = .ok 1 w
  vS : ∀ w, (zeroValue 96).run P w = .ok (Value.slice none 0 0) w
  tC : P.underlying 144 = some (TypeDesc.func #[99, 99] #[3] false)
  aC : ∀ w, (isAgg 144).run P w = .ok false w
  zC : ∀ w, (Go.sizeOf 144).run P w = .ok 1 w
  vC : ∀ w, (zeroValue 144).run P w = .ok (Value.nilFunc) w

theorem insLays : SlLaysF0.n20 Try.prog ren := {
  mixed := by kernel_rfl
  f20 := ⟨Try.f135.name, by decide, Try.func135.trans (congrArg some (by kernel_rfl))⟩
  t0 := Try.underlying0
  a0 := Try.isAgg0
  z0 := Try.sizeOf0
  v0 := Try.zeroValue0
  t3 := Try.underlying3
  a3 := Try.isAgg3
  z3 := Try.sizeOf3
  v3 := Try.zeroValue3
  t4 := Try.underlying4
  a4 := Try.isAgg4
  z4 := Try.sizeOf4
  v4 := Try.zeroValue4
  t22 := Try.underlying96
  a22 := Try.isAgg96
  z22 := Try.sizeOf96
  v22 := Try.zeroValue96
  t25 := Try.underlying144
  a25 := Try.isAgg144
  z25 := Try.sizeOf144
  v25 := Try.zeroValue144 }

theorem lays : Lays Try.prog 4 := {
  mixed := by kernel_rfl
  fSwap := Try.func150
  fRot := Try.func148
  fSym := Try.func136
  fStab := Try.func118
  fTop := Try.func93
  ins := insLays
  aE := Try.isAgg99
  zE := Try.sizeOf99
  t0 := Try.underlying0
  a0 := Try.isAgg0
  z0 := Try.sizeOf0
  v0 := Try.zeroValue0
  t3 := Try.underlying3
  a3 := Try.isAgg3
  z3 := Try.sizeOf3
  v3 := Try.zeroValue3
  t4 := Try.underlying4
  a4 := Try.isAgg4
  z4 := Try.sizeOf4
  v4 := Try.zeroValue4
  tu := Try.underlying161
  au := Try.isAgg161
  zu := Try.sizeOf161
  vu := Try.zeroValue161
  tS := Try.underlying96
  aS := Try.isAgg96
  zS := Try.sizeOf96
  vS := Try.zeroValue96
  tC := Try.underlying144
  aC := Try.isAgg144
  zC := Try.sizeOf144
  vC := Try.zeroValue144 }

variable {P : Program} {α : Type} [Inhabited α]

set_option maxHeartbeats 4000000 in
set_option maxRecDepth 1000000 in
theorem swapRange_any (k : Nat) (L : Lays P k) (enc : α → List Value) (g : Nat) (cb : Array Value) (blk off cap a b n : Nat) (d0 d : Array α) (w0 w : World)
    (R : RowK enc k w0 blk off d0) (hs : d0.size = d.size) (S : SWK enc k w0 blk off d w) (hab : a + n ≤ b) (hb : b + n ≤ d.size) (hsz : d.size < 4611686018427387904) :
    Calls P 150 #[.slice (some ⟨blk, off, none⟩) d.size cap, .int .i64 a, .int .i64 b, .int .i64 n, .func (.func g) #[] cb] w fun e w' => e = .returned (.tuple #[]) ∧ SWK enc k w0 blk off (swr d a b n) w' := by
  have mixed := L.mixed; have aE := L.aE; have zE := L.zE; have t0 := L.t0; have a0 := L.a0; have z0 := L.z0; have v0 := L.v0; have t3 := L.t3; have a3 := L.a3; have z3 := L.z3; have v3 := L.v3; have t4 := L.t4; have a4 := L.a4; have z4 := L.z4; have v4 := L.v4; have tS := L.tS; have aS := L.aS; have zS := L.zS; have vS := L.vS; have tC := L.tC; have aC := L.aC; have zC := L.zC; have vC := L.vC
  have FG := L.fSwap
  have S0 : Aside (SWK enc k w0 blk off d w) := S
  clear S
  go_enter FG, Try.ntmps150
  go_wp2
  go_loopg [10] n (fun kx s10 wr => ∃ (i : Nat), s10 = .int .i64 i ∧ i ≤ n ∧ n - i ≤ kx ∧ Aside (SWK enc k w0 blk off (swr d a b i) wr))
  case atStart => exact ⟨0, rfl, Nat.zero_le _, by omega, S0⟩
  case round =>
    clear S0
    obtain ⟨i, rfl, hin, hkx, S1⟩ := hrel
    by_cases hlt : i < n
    · have hltz : (i : Int) < (n : Int) := by omega
      have hds : (swr d a b i).size = d.size := size_swr _ _ _ _
      generalize hdk : swr d a b i = dk at S1 hds
      have HDK := Lib.hid hdk
      clear hdk
      go_wp2_with fail
      have ea44 : ((a : Int) + (i : Int)).toNat = a + i := by omega
      have pa44 : (0 : Int) ≤ (a : Int) + (i : Int) := by omega
      have ba44 : (a : Int) + (i : Int) < (d.size : Int) := by omega
      have ec44 : ((b : Int) + (i : Int)).toNat = b + i := by omega
      have pc44 : (0 : Int) ≤ (b : Int) + (i : Int) := by omega
      have bc44 : (b : Int) + (i : Int) < (d.size : Int) := by omega
      have S2 : Aside (SWK enc k w0 blk off (swp dk (a + i) (b + i)) ((wr.drew.setCells blk (off + (a + i) * k) (enc dk[b + i]!)).setCells blk (off + (b + i) * k) (enc dk[a + i]!))) := S1.out.swapped R (a + i) (b + i) (by omega) (by omega)
      have l44a := S1.out.ld1 R (by omega) P (a + i) (by omega)
      have l44b := S1.out.ld1 R (by omega) P (b + i) (by omega)
      have s44a := S1.out.st1 R (by omega) P (a + i) (by omega) dk[b + i]!
      have s44b := S1.out.st2 R (by omega) P (a + i) (b + i) (by omega) (by omega) dk[b + i]! dk[a + i]!
      have n44a : (enc dk[a + i]!).length = k := R.hk _
      have n44b : (enc dk[b + i]!).length = k := R.hk _
      generalize enc dk[a + i]! = cI44 at S2 l44a s44b n44a
      generalize enc dk[b + i]! = cJ44 at S2 l44b s44a s44b n44b
      clear S1
      go_big_region_o
      clear l44a l44b s44a s44b
      generalize (wr.drew.setCells blk (off + (a + i) * k) cJ44).setCells blk (off + (b + i) * k) cI44 = w2 at S2 ⊢
      go_wp2
      go_roundg (n - (i + 1))
      case measure => omega
      case rel => exact ⟨i + 1, by go_num, by omega, by omega, by rw [← HDK.out] at S2; exact S2⟩
    · obtain rfl : i = n := by omega
      go_wp2
      go_end0
      exact ⟨rfl, S1.out⟩
end SP
end Go.Proofs.Ythgkgjcnmahacaa
end

section
/- The rotation, as the library's stable sort has it. -/
set_option linter.unusedSimpArgs false
set_option linter.unusedVariables false
namespace Go.Proofs.Ythgkgjcnmahacaa
open Go.Shelf Go.RowKit Go.Lib Go.Sort
namespace SP
variable {P : Program} {α : Type} [Inhabited α]

theorem swapRange_z (k : Nat) (L : Lays P k) (enc : α → List Value) (g : Nat) (cb : Array Value) (blk off cap a b n : Nat) (d0 d : Array α) (w0 w : World)
    (R : RowK enc k w0 blk off d0) (hs : d0.size = d.size) (S : SWK enc k w0 blk off d w) (hab : a + n ≤ b) (hb : b + n ≤ d.size) (hsz : d.size < 4611686018427387904) (s : Nat) (az bz nz : Int) (h0 : s = d.size) (h1 : az = a) (h2 : bz = b) (h3 : nz = n) :
    Calls P 150 #[.slice (some ⟨blk, off, none⟩) s cap, .int .i64 az, .int .i64 bz, .int .i64 nz, .func (.func g) #[] cb] w fun e w' => e = .returned (.tuple #[]) ∧ SWK enc k w0 blk off (swr d a b n) w' := by
  subst h0 h1 h2 h3
  exact swapRange_any k L enc g cb blk off cap a b n d0 d w0 w R hs S hab hb hsz

def RotPost (enc : α → List Value) (k : Nat) (w0 : World) (blk off : Nat) (d : Array α) (a m b : Nat) (e : Ending) (w' : World) : Prop :=
  e = .returned (.tuple #[]) ∧ ∃ d' : Array α, SWK enc k w0 blk off d' w' ∧ PermIn a b d d' ∧ ∀ t, d'[t]! = rotG d a m b t

set_option maxHeartbeats 4000000 in
set_option maxRecDepth 1000000 in
theorem rotate_any (k : Nat) (L : Lays P k) (enc : α → List Value) (g : Nat) (cb : Array Value) (blk off cap a m b : Nat) (d0 d : Array α) (w0 w : World)
    (R : RowK enc k w0 blk off d0) (hs : d0.size = d.size) (S : SWK enc k w0 blk off d w) (ham : a < m) (hmb : m < b) (hb : b ≤ d.size) (hsz : d.size < 4611686018427387904) :
    Calls P 148 #[.slice (some ⟨blk, off, none⟩) d.size cap, .int .i64 a, .int .i64 m, .int .i64 b, .func (.func g) #[] cb] w (RotPost enc k w0 blk off d a m b) := by
  have mixed := L.mixed; have aE := L.aE; have zE := L.zE; have t0 := L.t0; have a0 := L.a0; have z0 := L.z0; have v0 := L.v0; have t3 := L.t3; have a3 := L.a3; have z3 := L.z3; have v3 := L.v3; have t4 := L.t4; have a4 := L.a4; have z4 := L.z4; have v4 := L.v4; have tS := L.tS; have aS := L.aS; have zS := L.zS; have vS := L.vS; have tC := L.tC; have aC := L.aC; have zC := L.zC; have vC := L.vC
  have FG := L.fRot
  have eSwap : ∀ args w, (callFunc 150 args).run P w = .ok (.enter 150 args) w := enters_of L.fSwap (by kernel_rfl) rfl
  have S0 : Aside (SWK enc k w0 blk off d w) := S
  have HSW := Lib.hid (fun a b n (d : Array α) w => swapRange_z k L enc g cb blk off cap a b n d0 d w0 w R)
  clear S
  have hslot : Hid (m - (m - a) = a ∧ m + (b - m) = b) := by unfold Hid; omega
  go_enter FG, Try.ntmps148
  go_wp2_with fail
  go_loopg [10, 11] (m - a + (b - m)) (fun kx s10 s11 wr => ∃ (i j : Nat) (dk : Array α), s10 = .int .i64 i ∧ s11 = .int .i64 j ∧ 0 < i ∧ i ≤ m - a ∧ 0 < j ∧ j ≤ b - m ∧ i + j ≤ kx ∧ dk.size = d.size ∧ Aside (SWK enc k w0 blk off dk wr) ∧ Hid (PermIn a b d dk ∧ ∀ t, rotG dk (m - i) m (m + j) t = rotG d a m b t))
  case atStart => exact ⟨m - a, b - m, d, by congr 1; omega, by congr 1; omega, by omega, Nat.le_refl _, by omega, Nat.le_refl _, Nat.le_refl _, rfl, S0, permIn_refl _ _ _, fun t => by rw [hslot.out.1, hslot.out.2]⟩
  case round =>
    clear S0
    obtain ⟨i, j, dk, rfl, rfl, hi0, hi, hj0, hj, hkx, hds, S1, HP⟩ := hrel
    rcases Nat.lt_trichotomy i j with hlt | heq | hgt
    · have hne : ((i : Int) != (j : Int)) = true := by rw [bne_iff_ne]; omega
      have hnz : ¬ (j : Int) < (i : Int) := by omega
      have HX : Hid (PermIn a b d (swr dk (m - i) (m + j - i) i) ∧ ∀ t, rotG (swr dk (m - i) (m + j - i) i) (m - i) m (m + (j - i)) t = rotG d a m b t) :=
        ⟨permIn_trans _ _ _ _ _ HP.out.1 (swr_perm dk _ _ i a b (by omega) (by omega) (by omega) (by omega) (by omega)), fun t => (rot_lt dk m i j t hlt (by omega) (by omega)).trans (HP.out.2 t)⟩
      go_wp2_with fail
      refine (HSW.out (m - i) (m + j - i) i dk _ (by omega) S1.out (by omega) (by omega) (by omega) _ _ _ _ (by omega) (by omega) (by omega) (by omega)).mono ?_
      rintro e w1 ⟨rfl, S2⟩
      go_wp2_with fail
      have S2' : Aside (SWK enc k w0 blk off (swr dk (m - i) (m + j - i) i) w1) := S2
      clear S2
      go_roundg (i + (j - i))
      case measure => omega
      case rel => exact ⟨i, j - i, _, rfl, by congr 1; omega, by omega, by omega, by omega, by omega, by omega, by rw [size_swr]; exact hds, S2', HX⟩
    · subst heq
      have hne : ((i : Int) != (i : Int)) = false := by simp
      have HX : Hid (PermIn a b d (swr dk (m - i) m i) ∧ ∀ t, (swr dk (m - i) m i)[t]! = rotG d a m b t) :=
        ⟨permIn_trans _ _ _ _ _ HP.out.1 (swr_perm dk _ _ i a b (by omega) (by omega) (by omega) (by omega) (by omega)), fun t => (rot_eq dk m i t (by omega) (by omega)).trans (HP.out.2 t)⟩
      go_wp2_with fail
      refine (HSW.out (m - i) m i dk _ (by omega) S1.out (by omega) (by omega) (by omega) _ _ _ _ (by omega) (by omega) (by omega) (by omega)).mono ?_
      rintro e w1 ⟨rfl, S2⟩
      go_wp2_with fail
      go_end0
      exact ⟨rfl, _, S2, HX.out.1, HX.out.2⟩
    · have hne : ((i : Int) != (j : Int)) = true := by rw [bne_iff_ne]; omega
      have hnz : (j : Int) < (i : Int) := by omega
      have HX : Hid (PermIn a b d (swr dk (m - i) m j) ∧ ∀ t, rotG (swr dk (m - i) m j) (m - (i - j)) m (m + j) t = rotG d a m b t) :=
        ⟨permIn_trans _ _ _ _ _ HP.out.1 (swr_perm dk _ _ j a b (by omega) (by omega) (by omega) (by omega) (by omega)), fun t => (rot_gt dk m i j t hgt (by omega) (by omega)).trans (HP.out.2 t)⟩
      go_wp2_with fail
      refine (HSW.out (m - i) m j dk _ (by omega) S1.out (by omega) (by omega) (by omega) _ _ _ _ (by omega) (by omega) (by omega) (by omega)).mono ?_
      rintro e w1 ⟨rfl, S2⟩
      go_wp2_with fail
      have S2' : Aside (SWK enc k w0 blk off (swr dk (m - i) m j) w1) := S2
      clear S2
      go_roundg (i - j + j)
      case measure => omega
      case rel => exact ⟨i - j, j, _, by congr 1; omega, rfl, by omega, by omega, by omega, by omega, by omega, by rw [size_swr]; exact hds, S2', HX⟩
end SP
end Go.Proofs.Ythgkgjcnmahacaa
end

section
/- The symmetric merge where the left is one element: it is laid into the right. -/
set_option linter.unusedSimpArgs false
set_option linter.unusedVariables false
namespace Go.Proofs.Ythgkgjcnmahacaa
open Go.Shelf Go.RowKit Go.Lib Go.Sort
namespace SP
variable {P : Program} {α : Type} [Inhabited α]

def SymPost (enc : α → List Value) (k : Nat) (w0 : World) (blk off : Nat) (lt : α → α → Bool) (d : Array α) (a b : Nat) (e : Ending) (w' : World) : Prop :=
  e = .returned (.tuple #[]) ∧ ∃ d' : Array α, SWK enc k w0 blk off d' w' ∧ PermIn a b d d' ∧ SortedIn lt a b d'

set_option maxHeartbeats 4000000 in
set_option maxRecDepth 1000000 in
theorem sym_left (k : Nat) (L : Lays P k) (enc : α → List Value) (cf : α → α → Int) (lt : α → α → Bool) (Sw : SWO lt) (g : Nat) (cb : Array Value) (blk off cap a m b : Nat) (d0 d : Array α) (w0 w : World)
    (eg : ∀ args w, (callFunc g args).run P w = .ok (.enter g args) w) (hcmp : CmpLays P g cb enc k cf blk off d0.size w0)
    (R : RowK enc k w0 blk off d0) (hs : d0.size = d.size) (S : SWK enc k w0 blk off d w) (ham : m = a + 1) (hmb : m < b) (hb : b ≤ d.size) (hsz : d.size < 4611686018427387904)
    (h2 : SortedIn lt m b d) (hx : ∀ i j, a ≤ i → i < m → m ≤ j → j < b → ltOf cf d[j]! d[i]! = lt d[j]! d[i]!) :
    Calls P 136 #[.slice (some ⟨blk, off, none⟩) d.size cap, .int .i64 a, .int .i64 m, .int .i64 b, .func (.func g) #[] cb] w (SymPost enc k w0 blk off lt d a b) := by
  have mixed := L.mixed; have aE := L.aE; have zE := L.zE; have t0 := L.t0; have a0 := L.a0; have z0 := L.z0; have v0 := L.v0; have t3 := L.t3; have a3 := L.a3; have z3 := L.z3; have v3 := L.v3; have t4 := L.t4; have a4 := L.a4; have z4 := L.z4; have v4 := L.v4; have tu := L.tu; have au := L.au; have zu := L.zu; have vu := L.vu; have tS := L.tS; have aS := L.aS; have zS := L.zS; have vS := L.vS; have tC := L.tC; have aC := L.aC; have zC := L.zC; have vC := L.vC
  have FG := L.fSym
  have S0 : Aside (SWK enc k w0 blk off d w) := S
  have HC : Aside _ := hcmp
  have HSW := Lib.hid Sw
  have HX := Lib.hid hx
  have H2 := Lib.hid h2
  clear S hcmp Sw hx h2
  subst ham
  have hone : (((a + 1 : Nat) : Int) - (a : Int) == 1) = true := by simp; omega
  have hone' : ((a : Int) + 1 - (a : Int) == 1) = true := by simp; omega
  go_enter FG, Try.ntmps136
  go_wp2_with fail
  go_loopg [10, 11] (b - a) (fun kx s10 s11 wr => ∃ (i j : Nat), s10 = .int .i64 i ∧ s11 = .int .i64 j ∧ a + 1 ≤ i ∧ i ≤ j ∧ j ≤ b ∧ j - i ≤ kx ∧ Aside (SWK enc k w0 blk off d wr) ∧ Hid (a + 1 < i → lt d[i - 1]! d[a]! = true) ∧ Hid (j < b → lt d[j]! d[a]! = false))
  case atStart => exact ⟨a + 1, b, by go_num, rfl, Nat.le_refl _, by omega, Nat.le_refl _, by omega, S0, fun h => by omega, fun h => by omega⟩
  case round =>
    clear S0
    obtain ⟨i, j, rfl, rfl, hi1, hij, hjb, hkx, S1, HA, HB⟩ := hrel
    by_cases hlt : i < j
    · have hltz : (i : Int) < (j : Int) := by omega
      have eh : (((i : Int) + (j : Int)) / 2).toNat = (i + j) / 2 := by omega
      have ph : (0 : Int) ≤ ((i : Int) + (j : Int)) / 2 := by omega
      have bh : ((i : Int) + (j : Int)) / 2 < (d.size : Int) := by omega
      have ba : (a : Int) < (d.size : Int) := by omega
      have pa : (0 : Int) ≤ (a : Int) := by omega
      have hh : i ≤ (i + j) / 2 ∧ (i + j) / 2 < j := by omega
      obtain ⟨xh, hxh⟩ : ∃ x, d[(i + j) / 2]! = x := ⟨_, rfl⟩
      obtain ⟨xa, hxa⟩ : ∃ x, d[a]! = x := ⟨_, rfl⟩
      have hcr : ltOf cf xh xa = lt xh xa := by rw [← hxh, ← hxa]; exact HX.out a _ (Nat.le_refl _) (by omega) (by omega) (by omega)
      have lh := S1.out.ld R hs.symm P ((i + j) / 2) (by omega)
      have la := S1.out.ld R hs.symm P a (by omega)
      rw [hxh] at lh
      rw [hxa] at la
      have hcg := S1.out.cmp HC.out hs.symm xh xa
      have GR : Aside (∀ n os, SWK enc k w0 blk off d (grow (wr.drewN n) os)) := fun n os => S1.out.grown n os
      have HXH := Lib.hid hxh
      have HXA := Lib.hid hxa
      have HCR := Lib.hid hcr
      clear hxh hxa hcr S1
      by_cases hlv : cf xh xa < 0
      · have HA' : Hid (a + 1 < (i + j) / 2 + 1 → lt d[(i + j) / 2 + 1 - 1]! d[a]! = true) := fun _ => by
          rw [Nat.add_sub_cancel, HXH.out, HXA.out, ← HCR.out]; exact decide_eq_true hlv
        go_wp2_with fail
        go_quiet_grown (first | (go_at_fn g; refine Calls.grown_of (hcg _ _)))
        go_wp2_with fail
        go_roundg (j - ((i + j) / 2 + 1))
        case measure => omega
        case rel => exact ⟨(i + j) / 2 + 1, j, by first | rfl | (congr 1; omega), rfl, by omega, by omega, by omega, by omega, GR.out nq osq, HA', HB⟩
      · have HB' : Hid ((i + j) / 2 < b → lt d[(i + j) / 2]! d[a]! = false) := fun _ => by
          rw [HXH.out, HXA.out, ← HCR.out]; exact decide_eq_false hlv
        go_wp2_with fail
        go_quiet_grown (first | (go_at_fn g; refine Calls.grown_of (hcg _ _)))
        go_wp2_with fail
        go_roundg ((i + j) / 2 - i)
        case measure => omega
        case rel => exact ⟨i, (i + j) / 2, rfl, by first | rfl | (congr 1; omega), by omega, by omega, by omega, by omega, GR.out nq osq, HA, HB'⟩
    · obtain rfl : i = j := by omega
      have hltz : ¬ (i : Int) < (i : Int) := by omega
      have HI := Lib.hid (ins_left HSW.out H2.out hi1 hjb hb HA.out HB.out)
      go_wp2_with fail
      go_loopg [13] (i - a) (fun kx s13 wr2 => ∃ c : Nat, s13 = .int .i64 ((a + c : Nat) : Int) ∧ c ≤ i - 1 - a ∧ i - a - c ≤ kx ∧ Aside (SWK enc k w0 blk off (bubUp d a c) wr2))
      case atStart => exact ⟨0, rfl, Nat.zero_le _, by omega, S1⟩
      case round =>
        clear S1
        obtain ⟨c, rfl, hc, hkx2, S1⟩ := hrel
        by_cases hlt2 : c < i - 1 - a
        · have hltz2 : ((a + c : Nat) : Int) < (i : Int) - 1 := by omega
          have hds : (bubUp d a c).size = d.size := size_bubUp _ _ _
          generalize hdk : bubUp d a c = dk at S1 hds
          have HDK := Lib.hid hdk
          clear hdk
          have hacl : a + c + 1 < d.size := by omega
          have HSTEP : Hid (swp dk (a + c) (a + c + 1) = bubUp d a (c + 1)) := by unfold Hid; rw [bubUp, HDK.out]
          generalize hac : a + c = ac at *
          have HAC := Lib.hid hac
          clear hac
          have ea44 : ((ac : Int) + 1).toNat = ac + 1 := by omega
          have pa44 : (0 : Int) ≤ (ac : Int) + 1 := by omega
          have ba44 : (ac : Int) + 1 < (d.size : Int) := by omega
          have pc44 : (0 : Int) ≤ (ac : Int) := by omega
          have bc44 : (ac : Int) < (d.size : Int) := by omega
          go_wp2_with fail
          have S2 : Aside (SWK enc k w0 blk off (swp dk ac (ac + 1)) ((wr.drew.setCells blk (off + ac * k) (enc dk[ac + 1]!)).setCells blk (off + (ac + 1) * k) (enc dk[ac]!))) := S1.out.swapped R ac (ac + 1) (by omega) (by omega)
          have l44a := S1.out.ld1 R (by omega) P ac (by omega)
          have l44b := S1.out.ld1 R (by omega) P (ac + 1) (by omega)
          have s44a := S1.out.st1 R (by omega) P ac (by omega) dk[ac + 1]!
          have s44b := S1.out.st2 R (by omega) P ac (ac + 1) (by omega) (by omega) dk[ac + 1]! dk[ac]!
          have n44a : (enc dk[ac]!).length = k := R.hk _
          have n44b : (enc dk[ac + 1]!).length = k := R.hk _
          generalize enc dk[ac]! = cI44 at S2 l44a s44b n44a
          generalize enc dk[ac + 1]! = cJ44 at S2 l44b s44a s44b n44b
          clear S1
          go_big_region_o
          clear l44a l44b s44a s44b
          generalize (wr.drew.setCells blk (off + ac * k) cJ44).setCells blk (off + (ac + 1) * k) cI44 = w2 at S2 ⊢
          go_wp2
          go_roundg (i - a - (c + 1))
          case measure => have := HAC.out; omega
          case rel => exact ⟨c + 1, by have := HAC.out; first | rfl | (congr 1; omega), by have := HAC.out; omega, by omega, by rw [HSTEP.out] at S2; exact S2⟩
        · obtain rfl : c = i - 1 - a := by omega
          have hltz2 : ¬ ((a + (i - 1 - a) : Nat) : Int) < (i : Int) - 1 := by omega
          go_wp2_with fail
          go_end0
          exact ⟨rfl, _, S1.out, bubUp_perm d a _ a b (Nat.le_refl _) (by omega) hb, HI.out⟩
end SP
end Go.Proofs.Ythgkgjcnmahacaa
end

section
/- The symmetric merge where the right is one element: it is laid into the left. -/
set_option linter.unusedSimpArgs false
set_option linter.unusedVariables false
namespace Go.Proofs.Ythgkgjcnmahacaa
open Go.Shelf Go.RowKit Go.Lib Go.Sort
namespace SP
variable {P : Program} {α : Type} [Inhabited α]

set_option maxHeartbeats 4000000 in
set_option maxRecDepth 1000000 in
theorem sym_right (k : Nat) (L : Lays P k) (enc : α → List Value) (cf : α → α → Int) (lt : α → α → Bool) (Sw : SWO lt) (g : Nat) (cb : Array Value) (blk off cap a m b : Nat) (d0 d : Array α) (w0 w : World)
    (eg : ∀ args w, (callFunc g args).run P w = .ok (.enter g args) w) (hcmp : CmpLays P g cb enc k cf blk off d0.size w0)
    (R : RowK enc k w0 blk off d0) (hs : d0.size = d.size) (S : SWK enc k w0 blk off d w) (ham : a + 1 < m) (hmb : b = m + 1) (hb : b ≤ d.size) (hsz : d.size < 4611686018427387904)
    (h1 : SortedIn lt a m d) (hx : ∀ i j, a ≤ i → i < m → m ≤ j → j < b → ltOf cf d[j]! d[i]! = lt d[j]! d[i]!) :
    Calls P 136 #[.slice (some ⟨blk, off, none⟩) d.size cap, .int .i64 a, .int .i64 m, .int .i64 b, .func (.func g) #[] cb] w (SymPost enc k w0 blk off lt d a b) := by
  have mixed := L.mixed; have aE := L.aE; have zE := L.zE; have t0 := L.t0; have a0 := L.a0; have z0 := L.z0; have v0 := L.v0; have t3 := L.t3; have a3 := L.a3; have z3 := L.z3; have v3 := L.v3; have t4 := L.t4; have a4 := L.a4; have z4 := L.z4; have v4 := L.v4; have tu := L.tu; have au := L.au; have zu := L.zu; have vu := L.vu; have tS := L.tS; have aS := L.aS; have zS := L.zS; have vS := L.vS; have tC := L.tC; have aC := L.aC; have zC := L.zC; have vC := L.vC
  have FG := L.fSym
  have S0 : Aside (SWK enc k w0 blk off d w) := S
  have HC : Aside _ := hcmp
  have HSW := Lib.hid Sw
  have HX := Lib.hid hx
  have H1 := Lib.hid h1
  clear S hcmp Sw hx h1
  subst hmb
  have hone : ((m : Int) - (a : Int) == 1) = false := by rw [beq_eq_false_iff_ne]; omega
  have hone2 : (((m + 1 : Nat) : Int) - (m : Int) == 1) = true := by rw [beq_iff_eq]; omega
  have hone3 : ((m : Int) + 1 - (m : Int) == 1) = true := by rw [beq_iff_eq]; omega
  go_enter FG, Try.ntmps136
  go_wp2_with fail
  go_loopg [14, 15] (m - a) (fun kx s10 s11 wr => ∃ (i j : Nat), s10 = .int .i64 i ∧ s11 = .int .i64 j ∧ a ≤ i ∧ i ≤ j ∧ j ≤ m ∧ j - i ≤ kx ∧ Aside (SWK enc k w0 blk off d wr) ∧ Hid (a < i → lt d[m]! d[i - 1]! = false) ∧ Hid (j < m → lt d[m]! d[j]! = true))
  case atStart => exact ⟨a, m, rfl, rfl, Nat.le_refl _, by omega, Nat.le_refl _, by omega, S0, fun h => by omega, fun h => by omega⟩
  case round =>
    clear S0
    obtain ⟨i, j, rfl, rfl, hi1, hij, hjb, hkx, S1, HA, HB⟩ := hrel
    by_cases hlt : i < j
    · have hltz : (i : Int) < (j : Int) := by omega
      have eh : (((i : Int) + (j : Int)) / 2).toNat = (i + j) / 2 := by omega
      have ph : (0 : Int) ≤ ((i : Int) + (j : Int)) / 2 := by omega
      have bh : ((i : Int) + (j : Int)) / 2 < (d.size : Int) := by omega
      have ba : (m : Int) < (d.size : Int) := by omega
      have pa : (0 : Int) ≤ (m : Int) := by omega
      have hh : i ≤ (i + j) / 2 ∧ (i + j) / 2 < j := by omega
      obtain ⟨xh, hxh⟩ : ∃ x, d[(i + j) / 2]! = x := ⟨_, rfl⟩
      obtain ⟨xa, hxa⟩ : ∃ x, d[m]! = x := ⟨_, rfl⟩
      have hcr : ltOf cf xa xh = lt xa xh := by rw [← hxh, ← hxa]; exact HX.out _ m (by omega) (by omega) (Nat.le_refl _) (by omega)
      have lh := S1.out.ld R hs.symm P ((i + j) / 2) (by omega)
      have la := S1.out.ld R hs.symm P m (by omega)
      rw [hxh] at lh
      rw [hxa] at la
      have hcg := S1.out.cmp HC.out hs.symm xa xh
      have GR : Aside (∀ n os, SWK enc k w0 blk off d (grow (wr.drewN n) os)) := fun n os => S1.out.grown n os
      have HXH := Lib.hid hxh
      have HXA := Lib.hid hxa
      have HCR := Lib.hid hcr
      clear hxh hxa hcr S1
      by_cases hlv : cf xa xh < 0
      · have HB' : Hid ((i + j) / 2 < m → lt d[m]! d[(i + j) / 2]! = true) := fun _ => by
          rw [HXH.out, HXA.out, ← HCR.out]; exact decide_eq_true hlv
        go_wp2_with fail
        go_quiet_grown (first | (go_at_fn g; refine Calls.grown_of (hcg _ _)))
        go_wp2_with fail
        go_roundg ((i + j) / 2 - i)
        case measure => omega
        case rel => exact ⟨i, (i + j) / 2, rfl, by first | rfl | (congr 1; omega), by omega, by omega, by omega, by omega, GR.out nq osq, HA, HB'⟩
      · have HA' : Hid (a < (i + j) / 2 + 1 → lt d[m]! d[(i + j) / 2 + 1 - 1]! = false) := fun _ => by
          rw [Nat.add_sub_cancel, HXH.out, HXA.out, ← HCR.out]; exact decide_eq_false hlv
        have hlv2 : decide (cf xa xh < 0) = false := decide_eq_false hlv
        have hlv3 : 0 ≤ cf xa xh := by omega
        go_wp2_with fail
        go_quiet_grown (first | (go_at_fn g; refine Calls.grown_of (hcg _ _)))
        go_wp2_with fail
        go_roundg (j - ((i + j) / 2 + 1))
        case measure => omega
        case rel => exact ⟨(i + j) / 2 + 1, j, by first | rfl | (congr 1; omega), rfl, by omega, by omega, by omega, by omega, GR.out nq osq, HA', HB⟩
    · obtain rfl : i = j := by omega
      have hltz : ¬ (i : Int) < (i : Int) := by omega
      have HI := Lib.hid (ins_right HSW.out H1.out hi1 hjb (by omega) HA.out HB.out)
      go_wp2_with fail
      go_loopg [17] (m - i) (fun kx s13 wr2 => ∃ c : Nat, s13 = .int .i64 ((m - c : Nat) : Int) ∧ c ≤ m - i ∧ m - i - c ≤ kx ∧ Aside (SWK enc k w0 blk off (bubDn d m c) wr2))
      case atStart => exact ⟨0, rfl, Nat.zero_le _, by omega, S1⟩
      case round =>
        clear S1
        obtain ⟨c, rfl, hc, hkx2, S1⟩ := hrel
        by_cases hlt2 : c < m - i
        · have hds : (bubDn d m c).size = d.size := size_bubDn _ _ _
          generalize hdk : bubDn d m c = dk at S1 hds
          have HDK := Lib.hid hdk
          clear hdk
          have HSTEP : Hid (swp dk (m - c) (m - c - 1) = bubDn d m (c + 1)) := by unfold Hid; rw [bubDn, HDK.out]
          obtain ⟨ac, hac⟩ : ∃ ac, m - c = ac + 1 := ⟨m - c - 1, by omega⟩
          rw [hac, Nat.add_sub_cancel] at HSTEP
          rw [hac]
          have hacl : ac + 1 < d.size := by omega
          have hiac : i ≤ ac := by omega
          have HAC := Lib.hid hac
          clear hac
          have hltz2 : (i : Int) < ((ac + 1 : Nat) : Int) := by omega
          have hltz3 : (i : Int) < (ac : Int) + 1 := by omega
          have ea44 : ((ac : Int) + 1).toNat = ac + 1 := by omega
          have pa44 : (0 : Int) ≤ (ac : Int) + 1 := by omega
          have ba44 : (ac : Int) + 1 < (d.size : Int) := by omega
          have pc44 : (0 : Int) ≤ (ac : Int) := by omega
          have bc44 : (ac : Int) < (d.size : Int) := by omega
          have em44 : (ac : Int) + 1 - 1 = (ac : Int) := by omega
          go_wp2_with fail
          have S2 : Aside (SWK enc k w0 blk off (swp dk (ac + 1) ac) ((wr.drew.setCells blk (off + (ac + 1) * k) (enc dk[ac]!)).setCells blk (off + ac * k) (enc dk[ac + 1]!))) := S1.out.swapped R (ac + 1) ac (by omega) (by omega)
          have l44a := S1.out.ld1 R (by omega) P (ac + 1) (by omega)
          have l44b := S1.out.ld1 R (by omega) P ac (by omega)
          have s44a := S1.out.st1 R (by omega) P (ac + 1) (by omega) dk[ac]!
          have s44b := S1.out.st2 R (by omega) P (ac + 1) ac (by omega) (by omega) dk[ac]! dk[ac + 1]!
          have n44a : (enc dk[ac + 1]!).length = k := R.hk _
          have n44b : (enc dk[ac]!).length = k := R.hk _
          generalize enc dk[ac + 1]! = cI44 at S2 l44a s44b n44a
          generalize enc dk[ac]! = cJ44 at S2 l44b s44a s44b n44b
          clear S1
          go_big_region_o
          clear l44a l44b s44a s44b
          generalize (wr.drew.setCells blk (off + (ac + 1) * k) cJ44).setCells blk (off + ac * k) cI44 = w2 at S2 ⊢
          go_wp2
          go_roundg (m - i - (c + 1))
          case measure => have := HAC.out; omega
          case rel => exact ⟨c + 1, by have := HAC.out; first | rfl | (congr 1; omega), by have := HAC.out; omega, by omega, by rw [HSTEP.out] at S2; exact S2⟩
        · obtain rfl : c = m - i := by omega
          have hmi : m - (m - i) = i := by omega
          rw [hmi]
          have hltz2 : ¬ (i : Int) < (i : Int) := by omega
          go_wp2_with fail
          go_end0
          exact ⟨rfl, _, S1.out, bubDn_perm d m _ a (m + 1) (by omega) (by omega) (by omega) hb, HI.out⟩
end SP
end Go.Proofs.Ythgkgjcnmahacaa
end
