import Derived.Test.YthgkgjcnmahacaaProg
import Derived.Test.YthgkgjcnmahacaaSk00
import Derived.Shelf.SlSortCmp.KitK
import Derived.Sort.WalkB2
import Derived.Sort.WalkB12
import Derived.Deep.LoopGhost
import Derived.WalkKit
import Derived.Lib.Hide
import Derived.Shelf.SlSortCmp.QuietGrown
import Derived.Deep.Cut
import Derived.Deep.CutRange
import Derived.Sort.OwnSorted
import Derived.Lib.Strings
import Derived.Lib.Bytealg
import Derived.Deep.RegionLaw
section
/- The exchange of two ranges, as the library's stable sort has it, at elements of 6 cells. -/
set_option linter.unusedSimpArgs false
set_option linter.unusedVariables false
namespace Go.Proofs.Ythgkgjcnmahacaa
open Go.Shelf Go.RowKit Go.Lib Go.Sort
namespace SM
def ren : Ren := ⟨fun | 20 => 113 | n => n, fun | 24 => 90 | 22 => 23 | 3 => 3 | 25 => 93 | 4 => 4 | 0 => 0 | n => n, fun | n => n⟩

/-- What the walks ask of a program: its bodies, its types. (The element's cells are k, a variable: the walk then takes them by runs.) -/
structure Lays (P : Program) (k : Nat) : Prop where
  mixed : P.follows .mixedOrders = true
  fSwap : P.funcs[147]? = some Try.f147
  fRot : P.funcs[134]? = some Try.f134
  fSym : P.funcs[114]? = some Try.f114
  fStab : P.funcs[88]? = some Try.f88
  fTop : P.funcs[53]? = some Try.f53
  ins : SlLaysF0.n20 P ren
  aE : ∀ w, (isAgg 90).run P w = .ok true w
  zE : ∀ w, (Go.sizeOf 90).run P w = .ok k w
  t0 : P.underlying 0 = some (TypeDesc.tuple #[])
  a0 : ∀ w, (isAgg 0).run P w = .ok false w
  z0 : ∀ w, (Go.sizeOf 0).run P w = .ok 1 w
  v0 : ∀ w, (zeroValue 0).run P w = .ok (Value.tuple #[]) w
  t3 : P.underlying 3 = some (TypeDesc.int IntKind.i64)
  a3 : ∀ w, (isAgg 3).run P w = .ok false w
  z3 : ∀ w, (Go.sizeOf 3).run P w = .ok 1 w
  v3 : ∀ w, (zeroValue 3).run P w = .ok (Value.int IntKind.i64 0) w
  t4 : P.underlying 4 = some (TypeDesc.bool)
  a4 : ∀ w, (isAgg 4).run P w = .ok false w
  z4 : ∀ w, (Go.sizeOf 4).run P w = .ok 1 w
  v4 : ∀ w, (zeroValue 4).run P w = .ok (Value.bool false) w
  tu : P.underlying 161 = some (TypeDesc.int IntKind.u64)
  au : ∀ w, (isAgg 161).run P w = .ok false w
  zu : ∀ w, (Go.sizeOf 161).run P w = .ok 1 w
  vu : ∀ w, (zeroValue 161).run P w = .ok (Value.int IntKind.u64 0) w
  tS : P.underlying 23 = some (TypeDesc.slice 90)
  aS : ∀ w, (isAgg 23).run P w = .ok false w
  zS : ∀ w, (Go.sizeOf 23).run P w = .ok 1 w
  vS : ∀ w, (zeroValue 23).run P w = .ok (Value.slice none 0 0) w
  tC : P.underlying 93 = some (TypeDesc.func #[90, 90] #[3] false)
  aC : ∀ w, (isAgg 93).run P w = .ok false w
  zC : ∀ w, (Go.sizeOf 93).run P w = .ok 1 w
  vC : ∀ w, (zeroValue 93).run P w = .ok (Value.nilFunc) w

theorem insLays : SlLaysF0.n20 Try.prog ren := {
  mixed := by kernel_rfl
  f20 := ⟨Try.f113.name, by decide, Try.func113.trans (congrArg some (by kernel_rfl))⟩
  t0 := Try.underlying0
  a0 := Try.isAgg0
  z0 := Try.sizeOf0
  v0 := Try.zeroValue0
  t3 := Try.underlying3
  a3 := Try.isAgg3
  z3 := Try.sizeOf3
  v3 := Try.zeroValue3
  t4 := Try.underlying4
  a4 := Try.isAgg4
  z4 := Try.sizeOf4
  v4 := Try.zeroValue4
  t22 := Try.underlying23
  a22 := Try.isAgg23
  z22 := Try.sizeOf23
  v22 := Try.zeroValue23
  t25 := Try.underlying93
  a25 := Try.isAgg93
  z25 := Try.sizeOf93
  v25 := Try.zeroValue93 }

theorem lays : Lays Try.prog 6 := {
  mixed := by kernel_rfl
  fSwap := Try.func147
  fRot := Try.func134
  fSym := Try.func114
  fStab := Try.func88
  fTop := Try.func53
  ins := insLays
  aE := Try.isAgg90
  zE := Try.sizeOf90
  t0 := Try.underlying0
  a0 := Try.isAgg0
  z0 := Try.sizeOf0
  v0 := Try.zeroValue0
  t3 := Try.underlying3
  a3 := Try.isAgg3
  z3 := Try.sizeOf3
  v3 := Try.zeroValue3
  t4 := Try.underlying4
  a4 := Try.isAgg4
  z4 := Try.sizeOf4
  v4 := Try.zeroValue4
  tu := Try.underlying161
  au := Try.isAgg161
  zu := Try.sizeOf161
  vu := Try.zeroValue161
  tS := Try.underlying23
  aS := Try.isAgg23
  zS := Try.sizeOf23
  vS := Try.zeroValue23
  tC := Try.underlying93
  aC := Try.isAgg93
  zC := Try.sizeOf93
  vC := Try.zeroValue93 }

variable {P : Program} {α : Type} [Inhabited α]

set_option maxHeartbeats 4000000 in
set_option maxRecDepth 1000000 in
theorem swapRange_any (k : Nat) (L : Lays P k) (enc : α → List Value) (g : Nat) (cb : Array Value) (blk off cap a b n : Nat) (d0 d : Array α) (w0 w : World)
    (R : RowK enc k w0 blk off d0) (hs : d0.size = d.size) (S : SWK enc k w0 blk off d w) (hab : a + n ≤ b) (hb : b + n ≤ d.size) (hsz : d.size < 4611686018427387904) :
    Calls P 147 #[.slice (some ⟨blk, off, none⟩) d.size cap, .int .i64 a, .int .i64 b, .int .i64 n, .func (.func g) #[] cb] w fun e w' => e = .returned (.tuple #[]) ∧ SWK enc k w0 blk off (swr d a b n) w' := by
  have mixed := L.mixed; have aE := L.aE; have zE := L.zE; have t0 := L.t0; have a0 := L.a0; have z0 := L.z0; have v0 := L.v0; have t3 := L.t3; have a3 := L.a3; have z3 := L.z3; have v3 := L.v3; have t4 := L.t4; have a4 := L.a4; have z4 := L.z4; have v4 := L.v4; have tS := L.tS; have aS := L.aS; have zS := L.zS; have vS := L.vS; have tC := L.tC; have aC := L.aC; have zC := L.zC; have vC := L.vC
  have FG := L.fSwap
  have S0 : Aside (SWK enc k w0 blk off d w) := S
  clear S
  go_enter FG, Try.ntmps147
  go_wp2
  go_loopg [10] n (fun kx s10 wr => ∃ (i : Nat), s10 = .int .i64 i ∧ i ≤ n ∧ n - i ≤ kx ∧ Aside (SWK enc k w0 blk off (swr d a b i) wr))
  case atStart => exact ⟨0, rfl, Nat.zero_le _, by omega, S0⟩
  case round =>
    clear S0
    obtain ⟨i, rfl, hin, hkx, S1⟩ := hrel
    by_cases hlt : i < n
    · have hltz : (i : Int) < (n : Int) := by omega
      have hds : (swr d a b i).size = d.size := size_swr _ _ _ _
      generalize hdk : swr d a b i = dk at S1 hds
      have HDK := Lib.hid hdk
      clear hdk
      go_wp2_with fail
      have ea44 : ((a : Int) + (i : Int)).toNat = a + i := by omega
      have pa44 : (0 : Int) ≤ (a : Int) + (i : Int) := by omega
      have ba44 : (a : Int) + (i : Int) < (d.size : Int) := by omega
      have ec44 : ((b : Int) + (i : Int)).toNat = b + i := by omega
      have pc44 : (0 : Int) ≤ (b : Int) + (i : Int) := by omega
      have bc44 : (b : Int) + (i : Int) < (d.size : Int) := by omega
      have S2 : Aside (SWK enc k w0 blk off (swp dk (a + i) (b + i)) ((wr.drew.setCells blk (off + (a + i) * k) (enc dk[b + i]!)).setCells blk (off + (b + i) * k) (enc dk[a + i]!))) := S1.out.swapped R (a + i) (b + i) (by omega) (by omega)
      have l44a := S1.out.ld1 R (by omega) P (a + i) (by omega)
      have l44b := S1.out.ld1 R (by omega) P (b + i) (by omega)
      have s44a := S1.out.st1 R (by omega) P (a + i) (by omega) dk[b + i]!
      have s44b := S1.out.st2 R (by omega) P (a + i) (b + i) (by omega) (by omega) dk[b + i]! dk[a + i]!
      have n44a : (enc dk[a + i]!).length = k := R.hk _
      have n44b : (enc dk[b + i]!).length = k := R.hk _
      generalize enc dk[a + i]! = cI44 at S2 l44a s44b n44a
      generalize enc dk[b + i]! = cJ44 at S2 l44b s44a s44b n44b
      clear S1
      go_big_region_o
      clear l44a l44b s44a s44b
      generalize (wr.drew.setCells blk (off + (a + i) * k) cJ44).setCells blk (off + (b + i) * k) cI44 = w2 at S2 ⊢
      go_wp2
      go_roundg (n - (i + 1))
      case measure => omega
      case rel => exact ⟨i + 1, by go_num, by omega, by omega, by rw [← HDK.out] at S2; exact S2⟩
    · obtain rfl : i = n := by omega
      go_wp2
      go_end0
      exact ⟨rfl, S1.out⟩
end SM
end Go.Proofs.Ythgkgjcnmahacaa
end

section
/- The rotation, as the library's stable sort has it. -/
set_option linter.unusedSimpArgs false
set_option linter.unusedVariables false
namespace Go.Proofs.Ythgkgjcnmahacaa
open Go.Shelf Go.RowKit Go.Lib Go.Sort
namespace SM
variable {P : Program} {α : Type} [Inhabited α]

theorem swapRange_z (k : Nat) (L : Lays P k) (enc : α → List Value) (g : Nat) (cb : Array Value) (blk off cap a b n : Nat) (d0 d : Array α) (w0 w : World)
    (R : RowK enc k w0 blk off d0) (hs : d0.size = d.size) (S : SWK enc k w0 blk off d w) (hab : a + n ≤ b) (hb : b + n ≤ d.size) (hsz : d.size < 4611686018427387904) (s : Nat) (az bz nz : Int) (h0 : s = d.size) (h1 : az = a) (h2 : bz = b) (h3 : nz = n) :
    Calls P 147 #[.slice (some ⟨blk, off, none⟩) s cap, .int .i64 az, .int .i64 bz, .int .i64 nz, .func (.func g) #[] cb] w fun e w' => e = .returned (.tuple #[]) ∧ SWK enc k w0 blk off (swr d a b n) w' := by
  subst h0 h1 h2 h3
  exact swapRange_any k L enc g cb blk off cap a b n d0 d w0 w R hs S hab hb hsz

def RotPost (enc : α → List Value) (k : Nat) (w0 : World) (blk off : Nat) (d : Array α) (a m b : Nat) (e : Ending) (w' : World) : Prop :=
  e = .returned (.tuple #[]) ∧ ∃ d' : Array α, SWK enc k w0 blk off d' w' ∧ PermIn a b d d' ∧ ∀ t, d'[t]! = rotG d a m b t

set_option maxHeartbeats 4000000 in
set_option maxRecDepth 1000000 in
theorem rotate_any (k : Nat) (L : Lays P k) (enc : α → List Value) (g : Nat) (cb : Array Value) (blk off cap a m b : Nat) (d0 d : Array α) (w0 w : World)
    (R : RowK enc k w0 blk off d0) (hs : d0.size = d.size) (S : SWK enc k w0 blk off d w) (ham : a < m) (hmb : m < b) (hb : b ≤ d.size) (hsz : d.size < 4611686018427387904) :
    Calls P 134 #[.slice (some ⟨blk, off, none⟩) d.size cap, .int .i64 a, .int .i64 m, .int .i64 b, .func (.func g) #[] cb] w (RotPost enc k w0 blk off d a m b) := by
  have mixed := L.mixed; have aE := L.aE; have zE := L.zE; have t0 := L.t0; have a0 := L.a0; have z0 := L.z0; have v0 := L.v0; have t3 := L.t3; have a3 := L.a3; have z3 := L.z3; have v3 := L.v3; have t4 := L.t4; have a4 := L.a4; have z4 := L.z4; have v4 := L.v4; have tS := L.tS; have aS := L.aS; have zS := L.zS; have vS := L.vS; have tC := L.tC; have aC := L.aC; have zC := L.zC; have vC := L.vC
  have FG := L.fRot
  have eSwap : ∀ args w, (callFunc 147 args).run P w = .ok (.enter 147 args) w := enters_of L.fSwap (by kernel_rfl) rfl
  have S0 : Aside (SWK enc k w0 blk off d w) := S
  have HSW := Lib.hid (fun a b n (d : Array α) w => swapRange_z k L enc g cb blk off cap a b n d0 d w0 w R)
  clear S
  have hslot : Hid (m - (m - a) = a ∧ m + (b - m) = b) := by unfold Hid; omega
  go_enter FG, Try.ntmps134
  go_wp2_with fail
  go_loopg [10, 11] (m - a + (b - m)) (fun kx s10 s11 wr => ∃ (i j : Nat) (dk : Array α), s10 = .int .i64 i ∧ s11 = .int .i64 j ∧ 0 < i ∧ i ≤ m - a ∧ 0 < j ∧ j ≤ b - m ∧ i + j ≤ kx ∧ dk.size = d.size ∧ Aside (SWK enc k w0 blk off dk wr) ∧ Hid (PermIn a b d dk ∧ ∀ t, rotG dk (m - i) m (m + j) t = rotG d a m b t))
  case atStart => exact ⟨m - a, b - m, d, by congr 1; omega, by congr 1; omega, by omega, Nat.le_refl _, by omega, Nat.le_refl _, Nat.le_refl _, rfl, S0, permIn_refl _ _ _, fun t => by rw [hslot.out.1, hslot.out.2]⟩
  case round =>
    clear S0
    obtain ⟨i, j, dk, rfl, rfl, hi0, hi, hj0, hj, hkx, hds, S1, HP⟩ := hrel
    rcases Nat.lt_trichotomy i j with hlt | heq | hgt
    · have hne : ((i : Int) != (j : Int)) = true := by rw [bne_iff_ne]; omega
      have hnz : ¬ (j : Int) < (i : Int) := by omega
      have HX : Hid (PermIn a b d (swr dk (m - i) (m + j - i) i) ∧ ∀ t, rotG (swr dk (m - i) (m + j - i) i) (m - i) m (m + (j - i)) t = rotG d a m b t) :=
        ⟨permIn_trans _ _ _ _ _ HP.out.1 (swr_perm dk _ _ i a b (by omega) (by omega) (by omega) (by omega) (by omega)), fun t => (rot_lt dk m i j t hlt (by omega) (by omega)).trans (HP.out.2 t)⟩
      go_wp2_with fail
      refine (HSW.out (m - i) (m + j - i) i dk _ (by omega) S1.out (by omega) (by omega) (by omega) _ _ _ _ (by omega) (by omega) (by omega) (by omega)).mono ?_
      rintro e w1 ⟨rfl, S2⟩
      go_wp2_with fail
      have S2' : Aside (SWK enc k w0 blk off (swr dk (m - i) (m + j - i) i) w1) := S2
      clear S2
      go_roundg (i + (j - i))
      case measure => omega
      case rel => exact ⟨i, j - i, _, rfl, by congr 1; omega, by omega, by omega, by omega, by omega, by omega, by rw [size_swr]; exact hds, S2', HX⟩
    · subst heq
      have hne : ((i : Int) != (i : Int)) = false := by simp
      have HX : Hid (PermIn a b d (swr dk (m - i) m i) ∧ ∀ t, (swr dk (m - i) m i)[t]! = rotG d a m b t) :=
        ⟨permIn_trans _ _ _ _ _ HP.out.1 (swr_perm dk _ _ i a b (by omega) (by omega) (by omega) (by omega) (by omega)), fun t => (rot_eq dk m i t (by omega) (by omega)).trans (HP.out.2 t)⟩
      go_wp2_with fail
      refine (HSW.out (m - i) m i dk _ (by omega) S1.out (by omega) (by omega) (by omega) _ _ _ _ (by omega) (by omega) (by omega) (by omega)).mono ?_
      rintro e w1 ⟨rfl, S2⟩
      go_wp2_with fail
      go_end0
      exact ⟨rfl, _, S2, HX.out.1, HX.out.2⟩
    · have hne : ((i : Int) != (j : Int)) = true := by rw [bne_iff_ne]; omega
      have hnz : (j : Int) < (i : Int) := by omega
      have HX : Hid (PermIn a b d (swr dk (m - i) m j) ∧ ∀ t, rotG (swr dk (m - i) m j) (m - (i - j)) m (m + j) t = rotG d a m b t) :=
        ⟨permIn_trans _ _ _ _ _ HP.out.1 (swr_perm dk _ _ j a b (by omega) (by omega) (by omega) (by omega) (by omega)), fun t => (rot_gt dk m i j t hgt (by omega) (by omega)).trans (HP.out.2 t)⟩
      go_wp2_with fail
      refine (HSW.out (m - i) m j dk _ (by omega) S1.out (by omega) (by omega) (by omega) _ _ _ _ (by omega) (by omega) (by omega) (by omega)).mono ?_
      rintro e w1 ⟨rfl, S2⟩
      go_wp2_with fail
      have S2' : Aside (SWK enc k w0 blk off (swr dk (m - i) m j) w1) := S2
      clear S2
      go_roundg (i - j + j)
      case measure => omega
      case rel => exact ⟨i - j, j, _, by congr 1; omega, rfl, by omega, by omega, by omega, by omega, by omega, by rw [size_swr]; exact hds, S2', HX⟩
end SM
end Go.Proofs.Ythgkgjcnmahacaa
end

section
/- The symmetric merge where the left is one element: it is laid into the right. -/
set_option linter.unusedSimpArgs false
set_option linter.unusedVariables false
namespace Go.Proofs.Ythgkgjcnmahacaa
open Go.Shelf Go.RowKit Go.Lib Go.Sort
namespace SM
variable {P : Program} {α : Type} [Inhabited α]

def SymPost (enc : α → List Value) (k : Nat) (w0 : World) (blk off : Nat) (lt : α → α → Bool) (d : Array α) (a b : Nat) (e : Ending) (w' : World) : Prop :=
  e = .returned (.tuple #[]) ∧ ∃ d' : Array α, SWK enc k w0 blk off d' w' ∧ PermIn a b d d' ∧ SortedIn lt a b d'

set_option maxHeartbeats 4000000 in
set_option maxRecDepth 1000000 in
theorem sym_left (k : Nat) (L : Lays P k) (enc : α → List Value) (cf : α → α → Int) (lt : α → α → Bool) (Sw : SWO lt) (g : Nat) (cb : Array Value) (blk off cap a m b : Nat) (d0 d : Array α) (w0 w : World)
    (eg : ∀ args w, (callFunc g args).run P w = .ok (.enter g args) w) (hcmp : CmpLays P g cb enc k cf blk off d0.size w0)
    (R : RowK enc k w0 blk off d0) (hs : d0.size = d.size) (S : SWK enc k w0 blk off d w) (ham : m = a + 1) (hmb : m < b) (hb : b ≤ d.size) (hsz : d.size < 4611686018427387904)
    (h2 : SortedIn lt m b d) (hx : ∀ i j, a ≤ i → i < m → m ≤ j → j < b → ltOf cf d[j]! d[i]! = lt d[j]! d[i]!) :
    Calls P 114 #[.slice (some ⟨blk, off, none⟩) d.size cap, .int .i64 a, .int .i64 m, .int .i64 b, .func (.func g) #[] cb] w (SymPost enc k w0 blk off lt d a b) := by
  have mixed := L.mixed; have aE := L.aE; have zE := L.zE; have t0 := L.t0; have a0 := L.a0; have z0 := L.z0; have v0 := L.v0; have t3 := L.t3; have a3 := L.a3; have z3 := L.z3; have v3 := L.v3; have t4 := L.t4; have a4 := L.a4; have z4 := L.z4; have v4 := L.v4; have tu := L.tu; have au := L.au; have zu := L.zu; have vu := L.vu; have tS := L.tS; have aS := L.aS; have zS := L.zS; have vS := L.vS; have tC := L.tC; have aC := L.aC; have zC := L.zC; have vC := L.vC
  have FG := L.fSym
  have S0 : Aside (SWK enc k w0 blk off d w) := S
  have HC : Aside _ := hcmp
  have HSW := Lib.hid Sw
  have HX := Lib.hid hx
  have H2 := Lib.hid h2
  clear S hcmp Sw hx h2
  subst ham
  have hone : (((a + 1 : Nat) : Int) - (a : Int) == 1) = true := by simp; omega
  have hone' : ((a : Int) + 1 - (a : Int) == 1) = true := by simp; omega
  go_enter FG, Try.ntmps114
  go_wp2_with fail
  go_loopg [10, 11] (b - a) (fun kx s10 s11 wr => ∃ (i j : Nat), s10 = .int .i64 i ∧ s11 = .int .i64 j ∧ a + 1 ≤ i ∧ i ≤ j ∧ j ≤ b ∧ j - i ≤ kx ∧ Aside (SWK enc k w0 blk off d wr) ∧ Hid (a + 1 < i → lt d[i - 1]! d[a]! = true) ∧ Hid (j < b → lt d[j]! d[a]! = false))
  case atStart => exact ⟨a + 1, b, by go_num, rfl, Nat.le_refl _, by omega, Nat.le_refl _, by omega, S0, fun h => by omega, fun h => by omega⟩
  case round =>
    clear S0
    obtain ⟨i, j, rfl, rfl, hi1, hij, hjb, hkx, S1, HA, HB⟩ := hrel
    by_cases hlt : i < j
    · have hltz : (i : Int) < (j : Int) := by omega
      have eh : (((i : Int) + (j : Int)) / 2).toNat = (i + j) / 2 := by omega
      have ph : (0 : Int) ≤ ((i : Int) + (j : Int)) / 2 := by omega
      have bh : ((i : Int) + (j : Int)) / 2 < (d.size : Int) := by omega
      have ba : (a : Int) < (d.size : Int) := by omega
      have pa : (0 : Int) ≤ (a : Int) := by omega
      have hh : i ≤ (i + j) / 2 ∧ (i + j) / 2 < j := by omega
      obtain ⟨xh, hxh⟩ : ∃ x, d[(i + j) / 2]! = x := ⟨_, rfl⟩
      obtain ⟨xa, hxa⟩ : ∃ x, d[a]! = x := ⟨_, rfl⟩
      have hcr : ltOf cf xh xa = lt xh xa := by rw [← hxh, ← hxa]; exact HX.out a _ (Nat.le_refl _) (by omega) (by omega) (by omega)
      have lh := S1.out.ld R hs.symm P ((i + j) / 2) (by omega)
      have la := S1.out.ld R hs.symm P a (by omega)
      rw [hxh] at lh
      rw [hxa] at la
      have hcg := S1.out.cmp HC.out hs.symm xh xa
      have GR : Aside (∀ n os, SWK enc k w0 blk off d (grow (wr.drewN n) os)) := fun n os => S1.out.grown n os
      have HXH := Lib.hid hxh
      have HXA := Lib.hid hxa
      have HCR := Lib.hid hcr
      clear hxh hxa hcr S1
      by_cases hlv : cf xh xa < 0
      · have HA' : Hid (a + 1 < (i + j) / 2 + 1 → lt d[(i + j) / 2 + 1 - 1]! d[a]! = true) := fun _ => by
          rw [Nat.add_sub_cancel, HXH.out, HXA.out, ← HCR.out]; exact decide_eq_true hlv
        go_wp2_with fail
        go_quiet_grown (first | (go_at_fn g; refine Calls.grown_of (hcg _ _)))
        go_wp2_with fail
        go_roundg (j - ((i + j) / 2 + 1))
        case measure => omega
        case rel => exact ⟨(i + j) / 2 + 1, j, by first | rfl | (congr 1; omega), rfl, by omega, by omega, by omega, by omega, GR.out nq osq, HA', HB⟩
      · have HB' : Hid ((i + j) / 2 < b → lt d[(i + j) / 2]! d[a]! = false) := fun _ => by
          rw [HXH.out, HXA.out, ← HCR.out]; exact decide_eq_false hlv
        go_wp2_with fail
        go_quiet_grown (first | (go_at_fn g; refine Calls.grown_of (hcg _ _)))
        go_wp2_with fail
        go_roundg ((i + j) / 2 - i)
        case measure => omega
        case rel => exact ⟨i, (i + j) / 2, rfl, by first | rfl | (congr 1; omega), by omega, by omega, by omega, by omega, GR.out nq osq, HA, HB'⟩
    · obtain rfl : i = j := by omega
      have hltz : ¬ (i : Int) < (i : Int) := by omega
      have HI := Lib.hid (ins_left HSW.out H2.out hi1 hjb hb HA.out HB.out)
      go_wp2_with fail
      go_loopg [13] (i - a) (fun kx s13 wr2 => ∃ c : Nat, s13 = .int .i64 ((a + c : Nat) : Int) ∧ c ≤ i - 1 - a ∧ i - a - c ≤ kx ∧ Aside (SWK enc k w0 blk off (bubUp d a c) wr2))
      case atStart => exact ⟨0, rfl, Nat.zero_le _, by omega, S1⟩
      case round =>
        clear S1
        obtain ⟨c, rfl, hc, hkx2, S1⟩ := hrel
        by_cases hlt2 : c < i - 1 - a
        · have hltz2 : ((a + c : Nat) : Int) < (i : Int) - 1 := by omega
          have hds : (bubUp d a c).size = d.size := size_bubUp _ _ _
          generalize hdk : bubUp d a c = dk at S1 hds
          have HDK := Lib.hid hdk
          clear hdk
          have hacl : a + c + 1 < d.size := by omega
          have HSTEP : Hid (swp dk (a + c) (a + c + 1) = bubUp d a (c + 1)) := by unfold Hid; rw [bubUp, HDK.out]
          generalize hac : a + c = ac at *
          have HAC := Lib.hid hac
          clear hac
          have ea44 : ((ac : Int) + 1).toNat = ac + 1 := by omega
          have pa44 : (0 : Int) ≤ (ac : Int) + 1 := by omega
          have ba44 : (ac : Int) + 1 < (d.size : Int) := by omega
          have pc44 : (0 : Int) ≤ (ac : Int) := by omega
          have bc44 : (ac : Int) < (d.size : Int) := by omega
          go_wp2_with fail
          have S2 : Aside (SWK enc k w0 blk off (swp dk ac (ac + 1)) ((wr.drew.setCells blk (off + ac * k) (enc dk[ac + 1]!)).setCells blk (off + (ac + 1) * k) (enc dk[ac]!))) := S1.out.swapped R ac (ac + 1) (by omega) (by omega)
          have l44a := S1.out.ld1 R (by omega) P ac (by omega)
          have l44b := S1.out.ld1 R (by omega) P (ac + 1) (by omega)
          have s44a := S1.out.st1 R (by omega) P ac (by omega) dk[ac + 1]!
          have s44b := S1.out.st2 R (by omega) P ac (ac + 1) (by omega) (by omega) dk[ac + 1]! dk[ac]!
          have n44a : (enc dk[ac]!).length = k := R.hk _
          have n44b : (enc dk[ac + 1]!).length = k := R.hk _
          generalize enc dk[ac]! = cI44 at S2 l44a s44b n44a
          generalize enc dk[ac + 1]! = cJ44 at S2 l44b s44a s44b n44b
          clear S1
          go_big_region_o
          clear l44a l44b s44a s44b
          generalize (wr.drew.setCells blk (off + ac * k) cJ44).setCells blk (off + (ac + 1) * k) cI44 = w2 at S2 ⊢
          go_wp2
          go_roundg (i - a - (c + 1))
          case measure => have := HAC.out; omega
          case rel => exact ⟨c + 1, by have := HAC.out; first | rfl | (congr 1; omega), by have := HAC.out; omega, by omega, by rw [HSTEP.out] at S2; exact S2⟩
        · obtain rfl : c = i - 1 - a := by omega
          have hltz2 : ¬ ((a + (i - 1 - a) : Nat) : Int) < (i : Int) - 1 := by omega
          go_wp2_with fail
          go_end0
          exact ⟨rfl, _, S1.out, bubUp_perm d a _ a b (Nat.le_refl _) (by omega) hb, HI.out⟩
end SM
end Go.Proofs.Ythgkgjcnmahacaa
end

section
/- The symmetric merge where the right is one element: it is laid into the left. -/
set_option linter.unusedSimpArgs false
set_option linter.unusedVariables false
namespace Go.Proofs.Ythgkgjcnmahacaa
open Go.Shelf Go.RowKit Go.Lib Go.Sort
namespace SM
variable {P : Program} {α : Type} [Inhabited α]

set_option maxHeartbeats 4000000 in
set_option maxRecDepth 1000000 in
theorem sym_right (k : Nat) (L : Lays P k) (enc : α → List Value) (cf : α → α → Int) (lt : α → α → Bool) (Sw : SWO lt) (g : Nat) (cb : Array Value) (blk off cap a m b : Nat) (d0 d : Array α) (w0 w : World)
    (eg : ∀ args w, (callFunc g args).run P w = .ok (.enter g args) w) (hcmp : CmpLays P g cb enc k cf blk off d0.size w0)
    (R : RowK enc k w0 blk off d0) (hs : d0.size = d.size) (S : SWK enc k w0 blk off d w) (ham : a + 1 < m) (hmb : b = m + 1) (hb : b ≤ d.size) (hsz : d.size < 4611686018427387904)
    (h1 : SortedIn lt a m d) (hx : ∀ i j, a ≤ i → i < m → m ≤ j → j < b → ltOf cf d[j]! d[i]! = lt d[j]! d[i]!) :
    Calls P 114 #[.slice (some ⟨blk, off, none⟩) d.size cap, .int .i64 a, .int .i64 m, .int .i64 b, .func (.func g) #[] cb] w (SymPost enc k w0 blk off lt d a b) := by
  have mixed := L.mixed; have aE := L.aE; have zE := L.zE; have t0 := L.t0; have a0 := L.a0; have z0 := L.z0; have v0 := L.v0; have t3 := L.t3; have a3 := L.a3; have z3 := L.z3; have v3 := L.v3; have t4 := L.t4; have a4 := L.a4; have z4 := L.z4; have v4 := L.v4; have tu := L.tu; have au := L.au; have zu := L.zu; have vu := L.vu; have tS := L.tS; have aS := L.aS; have zS := L.zS; have vS := L.vS; have tC := L.tC; have aC := L.aC; have zC := L.zC; have vC := L.vC
  have FG := L.fSym
  have S0 : Aside (SWK enc k w0 blk off d w) := S
  have HC : Aside _ := hcmp
  have HSW := Lib.hid Sw
  have HX := Lib.hid hx
  have H1 := Lib.hid h1
  clear S hcmp Sw hx h1
  subst hmb
  have hone : ((m : Int) - (a : Int) == 1) = false := by rw [beq_eq_false_iff_ne]; omega
  have hone2 : (((m + 1 : Nat) : Int) - (m : Int) == 1) = true := by rw [beq_iff_eq]; omega
  have hone3 : ((m : Int) + 1 - (m : Int) == 1) = true := by rw [beq_iff_eq]; omega
  go_enter FG, Try.ntmps114
  go_wp2_with fail
  go_loopg [14, 15] (m - a) (fun kx s10 s11 wr => ∃ (i j : Nat), s10 = .int .i64 i ∧ s11 = .int .i64 j ∧ a ≤ i ∧ i ≤ j ∧ j ≤ m ∧ j - i ≤ kx ∧ Aside (SWK enc k w0 blk off d wr) ∧ Hid (a < i → lt d[m]! d[i - 1]! = false) ∧ Hid (j < m → lt d[m]! d[j]! = true))
  case atStart => exact ⟨a, m, rfl, rfl, Nat.le_refl _, by omega, Nat.le_refl _, by omega, S0, fun h => by omega, fun h => by omega⟩
  case round =>
    clear S0
    obtain ⟨i, j, rfl, rfl, hi1, hij, hjb, hkx, S1, HA, HB⟩ := hrel
    by_cases hlt : i < j
    · have hltz : (i : Int) < (j : Int) := by omega
      have eh : (((i : Int) + (j : Int)) / 2).toNat = (i + j) / 2 := by omega
      have ph : (0 : Int) ≤ ((i : Int) + (j : Int)) / 2 := by omega
      have bh : ((i : Int) + (j : Int)) / 2 < (d.size : Int) := by omega
      have ba : (m : Int) < (d.size : Int) := by omega
      have pa : (0 : Int) ≤ (m : Int) := by omega
      have hh : i ≤ (i + j) / 2 ∧ (i + j) / 2 < j := by omega
      obtain ⟨xh, hxh⟩ : ∃ x, d[(i + j) / 2]! = x := ⟨_, rfl⟩
      obtain ⟨xa, hxa⟩ : ∃ x, d[m]! = x := ⟨_, rfl⟩
      have hcr : ltOf cf xa xh = lt xa xh := by rw [← hxh, ← hxa]; exact HX.out _ m (by omega) (by omega) (Nat.le_refl _) (by omega)
      have lh := S1.out.ld R hs.symm P ((i + j) / 2) (by omega)
      have la := S1.out.ld R hs.symm P m (by omega)
      rw [hxh] at lh
      rw [hxa] at la
      have hcg := S1.out.cmp HC.out hs.symm xa xh
      have GR : Aside (∀ n os, SWK enc k w0 blk off d (grow (wr.drewN n) os)) := fun n os => S1.out.grown n os
      have HXH := Lib.hid hxh
      have HXA := Lib.hid hxa
      have HCR := Lib.hid hcr
      clear hxh hxa hcr S1
      by_cases hlv : cf xa xh < 0
      · have HB' : Hid ((i + j) / 2 < m → lt d[m]! d[(i + j) / 2]! = true) := fun _ => by
          rw [HXH.out, HXA.out, ← HCR.out]; exact decide_eq_true hlv
        go_wp2_with fail
        go_quiet_grown (first | (go_at_fn g; refine Calls.grown_of (hcg _ _)))
        go_wp2_with fail
        go_roundg ((i + j) / 2 - i)
        case measure => omega
        case rel => exact ⟨i, (i + j) / 2, rfl, by first | rfl | (congr 1; omega), by omega, by omega, by omega, by omega, GR.out nq osq, HA, HB'⟩
      · have HA' : Hid (a < (i + j) / 2 + 1 → lt d[m]! d[(i + j) / 2 + 1 - 1]! = false) := fun _ => by
          rw [Nat.add_sub_cancel, HXH.out, HXA.out, ← HCR.out]; exact decide_eq_false hlv
        have hlv2 : decide (cf xa xh < 0) = false := decide_eq_false hlv
        have hlv3 : 0 ≤ cf xa xh := by omega
        go_wp2_with fail
        go_quiet_grown (first | (go_at_fn g; refine Calls.grown_of (hcg _ _)))
        go_wp2_with fail
        go_roundg (j - ((i + j) / 2 + 1))
        case measure => omega
        case rel => exact ⟨(i + j) / 2 + 1, j, by first | rfl | (congr 1; omega), rfl, by omega, by omega, by omega, by omega, GR.out nq osq, HA', HB⟩
    · obtain rfl : i = j := by omega
      have hltz : ¬ (i : Int) < (i : Int) := by omega
      have HI := Lib.hid (ins_right HSW.out H1.out hi1 hjb (by omega) HA.out HB.out)
      go_wp2_with fail
      go_loopg [17] (m - i) (fun kx s13 wr2 => ∃ c : Nat, s13 = .int .i64 ((m - c : Nat) : Int) ∧ c ≤ m - i ∧ m - i - c ≤ kx ∧ Aside (SWK enc k w0 blk off (bubDn d m c) wr2))
      case atStart => exact ⟨0, rfl, Nat.zero_le _, by omega, S1⟩
      case round =>
        clear S1
        obtain ⟨c, rfl, hc, hkx2, S1⟩ := hrel
        by_cases hlt2 : c < m - i
        · have hds : (bubDn d m c).size = d.size := size_bubDn _ _ _
          generalize hdk : bubDn d m c = dk at S1 hds
          have HDK := Lib.hid hdk
          clear hdk
          have HSTEP : Hid (swp dk (m - c) (m - c - 1) = bubDn d m (c + 1)) := by unfold Hid; rw [bubDn, HDK.out]
          obtain ⟨ac, hac⟩ : ∃ ac, m - c = ac + 1 := ⟨m - c - 1, by omega⟩
          rw [hac, Nat.add_sub_cancel] at HSTEP
          rw [hac]
          have hacl : ac + 1 < d.size := by omega
          have hiac : i ≤ ac := by omega
          have HAC := Lib.hid hac
          clear hac
          have hltz2 : (i : Int) < ((ac + 1 : Nat) : Int) := by omega
          have hltz3 : (i : Int) < (ac : Int) + 1 := by omega
          have ea44 : ((ac : Int) + 1).toNat = ac + 1 := by omega
          have pa44 : (0 : Int) ≤ (ac : Int) + 1 := by omega
          have ba44 : (ac : Int) + 1 < (d.size : Int) := by omega
          have pc44 : (0 : Int) ≤ (ac : Int) := by omega
          have bc44 : (ac : Int) < (d.size : Int) := by omega
          have em44 : (ac : Int) + 1 - 1 = (ac : Int) := by omega
          go_wp2_with fail
          have S2 : Aside (SWK enc k w0 blk off (swp dk (ac + 1) ac) ((wr.drew.setCells blk (off + (ac + 1) * k) (enc dk[ac]!)).setCells blk (off + ac * k) (enc dk[ac + 1]!))) := S1.out.swapped R (ac + 1) ac (by omega) (by omega)
          have l44a := S1.out.ld1 R (by omega) P (ac + 1) (by omega)
          have l44b := S1.out.ld1 R (by omega) P ac (by omega)
          have s44a := S1.out.st1 R (by omega) P (ac + 1) (by omega) dk[ac]!
          have s44b := S1.out.st2 R (by omega) P (ac + 1) ac (by omega) (by omega) dk[ac]! dk[ac + 1]!
          have n44a : (enc dk[ac + 1]!).length = k := R.hk _
          have n44b : (enc dk[ac]!).length = k := R.hk _
          generalize enc dk[ac + 1]! = cI44 at S2 l44a s44b n44a
          generalize enc dk[ac]! = cJ44 at S2 l44b s44a s44b n44b
          clear S1
          go_big_region_o
          clear l44a l44b s44a s44b
          generalize (wr.drew.setCells blk (off + (ac + 1) * k) cJ44).setCells blk (off + ac * k) cI44 = w2 at S2 ⊢
          go_wp2
          go_roundg (m - i - (c + 1))
          case measure => have := HAC.out; omega
          case rel => exact ⟨c + 1, by have := HAC.out; first | rfl | (congr 1; omega), by have := HAC.out; omega, by omega, by rw [HSTEP.out] at S2; exact S2⟩
        · obtain rfl : c = m - i := by omega
          have hmi : m - (m - i) = i := by omega
          rw [hmi]
          have hltz2 : ¬ (i : Int) < (i : Int) := by omega
          go_wp2_with fail
          go_end0
          exact ⟨rfl, _, S1.out, bubDn_perm d m _ a (m + 1) (by omega) (by omega) (by omega) hb, HI.out⟩
end SM
end Go.Proofs.Ythgkgjcnmahacaa
end

section
/- The symmetric merge. -/
set_option linter.unusedSimpArgs false
set_option linter.unusedVariables false
namespace Go.Proofs.Ythgkgjcnmahacaa
open Go.Shelf Go.RowKit Go.Lib Go.Sort
namespace SM
variable {P : Program} {α : Type} [Inhabited α]

/-- What the merge asks of the two halves. -/
def SymPre (cf : α → α → Int) (lt : α → α → Bool) (d : Array α) (a m b : Nat) : Prop :=
  SortedIn lt a m d ∧ SortedIn lt m b d ∧ ∀ i j, a ≤ i → i < m → m ≤ j → j < b → ltOf cf d[j]! d[i]! = lt d[j]! d[i]!

theorem rot_triv (d : Array α) (s m e t : Nat) (h : s = m ∨ m = e) (hs : s ≤ m) (he : m ≤ e) : d[t]! = rotG d s m e t := by
  unfold rotG
  rcases h with rfl | rfl
  · by_cases h1 : s ≤ t ∧ t < s + (e - s)
    · rw [if_pos h1, Nat.sub_self, Nat.add_zero]
    · rw [if_neg h1, if_neg (by omega)]
  · rw [if_neg (by omega), Nat.sub_self]
    by_cases h1 : s + 0 ≤ t ∧ t < m
    · rw [if_pos h1, Nat.sub_zero]
    · rw [if_neg h1]

set_option maxHeartbeats 8000000 in
set_option maxRecDepth 1000000 in
theorem sym_main (k : Nat) (L : Lays P k) (enc : α → List Value) (cf : α → α → Int) (lt : α → α → Bool) (Sw : SWO lt) (g : Nat) (cb : Array Value) (blk off cap a m b : Nat) (d0 d : Array α) (w0 w : World)
    (eg : ∀ args w, (callFunc g args).run P w = .ok (.enter g args) w) (hcmp : CmpLays P g cb enc k cf blk off d0.size w0)
    (R : RowK enc k w0 blk off d0) (hs : d0.size = d.size) (S : SWK enc k w0 blk off d w) (ham : a + 1 < m) (hmb : m + 1 < b) (hb : b ≤ d.size) (hsz : d.size < 4611686018427387904)
    (hpre : SymPre cf lt d a m b)
    (ih : ∀ (a' m' b' : Nat) (d' : Array α) (w' : World), b' - a' < b - a → d0.size = d'.size → SWK enc k w0 blk off d' w' → a' < m' → m' < b' → b' ≤ d'.size → SymPre cf lt d' a' m' b' →
      Calls P 114 #[.slice (some ⟨blk, off, none⟩) d'.size cap, .int .i64 a', .int .i64 m', .int .i64 b', .func (.func g) #[] cb] w' (SymPost enc k w0 blk off lt d' a' b')) :
    Calls P 114 #[.slice (some ⟨blk, off, none⟩) d.size cap, .int .i64 a, .int .i64 m, .int .i64 b, .func (.func g) #[] cb] w (SymPost enc k w0 blk off lt d a b) := by
  have mixed := L.mixed; have aE := L.aE; have zE := L.zE; have t0 := L.t0; have a0 := L.a0; have z0 := L.z0; have v0 := L.v0; have t3 := L.t3; have a3 := L.a3; have z3 := L.z3; have v3 := L.v3; have t4 := L.t4; have a4 := L.a4; have z4 := L.z4; have v4 := L.v4; have tu := L.tu; have au := L.au; have zu := L.zu; have vu := L.vu; have tS := L.tS; have aS := L.aS; have zS := L.zS; have vS := L.vS; have tC := L.tC; have aC := L.aC; have zC := L.zC; have vC := L.vC
  have FG := L.fSym
  have eRot : ∀ args w, (callFunc 134 args).run P w = .ok (.enter 134 args) w := enters_of L.fRot (by kernel_rfl) rfl
  have eSym : ∀ args w, (callFunc 114 args).run P w = .ok (.enter 114 args) w := enters_of L.fSym (by kernel_rfl) rfl
  have S0 : Aside (SWK enc k w0 blk off d w) := S
  have HC : Aside _ := hcmp
  have HIH : Aside _ := ih
  have HSW := Lib.hid Sw
  have HP := Lib.hid hpre
  clear S hcmp Sw hpre ih
  have hone : ((m : Int) - (a : Int) == 1) = false := by rw [beq_eq_false_iff_ne]; omega
  have hone2 : ((b : Int) - (m : Int) == 1) = false := by rw [beq_eq_false_iff_ne]; omega
  obtain ⟨mid, hmid⟩ : ∃ mid, (a + b) / 2 = mid := ⟨_, rfl⟩
  have hmid1 : a < mid ∧ mid < b := by omega
  have emid : ((a : Int) + (b : Int)) / 2 = (mid : Int) := by omega
  have emid2 : 2 * mid ≤ a + b ∧ a + b ≤ 2 * mid + 1 := by omega
  have HMID := Lib.hid hmid
  clear hmid
  go_enter FG, Try.ntmps114
  go_upto_if 140 with (fail)
  go_cut [20, 21] from 138 to 146 (fun s20 s21 wr => ∃ s0 r0 : Nat, s20 = .int .i64 s0 ∧ s21 = .int .i64 r0 ∧ a ≤ s0 ∧ s0 ≤ r0 ∧ r0 ≤ m ∧ r0 ≤ mid ∧ mid + m ≤ b + s0 ∧ (s0 = a ∨ s0 + b = mid + m) ∧ (r0 = m ∨ r0 = mid) ∧ Aside (SWK enc k w0 blk off d wr))
  case first =>
    by_cases hmm : mid < m
    · have hmz : (mid : Int) < (m : Int) := by omega
      have eS : ((mid + m - b : Nat) : Int) = (mid : Int) + (m : Int) - (b : Int) := by omega
      have ES := Lib.hid eS
      clear eS
      go_wp2_with fail
      go_meet
      exact ⟨mid + m - b, mid, by rw [ES.out], rfl, by omega, by omega, by omega, by omega, by omega, .inr (by omega), .inr rfl, S0⟩
    · have hmz : ¬ (mid : Int) < (m : Int) := by omega
      go_wp2_with fail
      go_meet
      exact ⟨a, m, rfl, rfl, Nat.le_refl _, by omega, by omega, by omega, by omega, .inl rfl, .inl rfl, S0⟩
  case rest =>
  obtain ⟨s0, r0, rfl, rfl, q1, q2, q3, q4, q5, q6, q7, S1⟩ := hcut
  clear S0
  go_wp2_with fail
  go_loopg [20, 21] (r0 - s0) (fun kx s20 s21 wr => ∃ (st r : Nat), s20 = .int .i64 st ∧ s21 = .int .i64 r ∧ s0 ≤ st ∧ st ≤ r ∧ r ≤ r0 ∧ r - st ≤ kx ∧ Aside (SWK enc k w0 blk off d wr) ∧ Hid (s0 < st → lt d[mid + m - st]! d[st - 1]! = false) ∧ Hid (r < r0 → lt d[mid + m - r - 1]! d[r]! = true))
  case atStart => exact ⟨s0, r0, rfl, rfl, Nat.le_refl _, q2, Nat.le_refl _, by omega, S1, fun h => by omega, fun h => by omega⟩
  case round =>
    clear S1
    obtain ⟨st, r, rfl, rfl, hi1, hij, hjb, hkx, S1, HA, HB⟩ := hrel
    by_cases hlt : st < r
    · have hltz : (st : Int) < (r : Int) := by omega
      obtain ⟨c, hc⟩ : ∃ c, (st + r) / 2 = c := ⟨_, rfl⟩
      have ecc : ((st : Int) + (r : Int)) / 2 = (c : Int) := by omega
      have hh : st ≤ c ∧ c < r := by omega
      clear hc
      have bc : (c : Int) < (d.size : Int) := by omega
      have pc : (0 : Int) ≤ (c : Int) := by omega
      obtain ⟨pp, hpp⟩ : ∃ pp, mid + m - 1 - c = pp := ⟨_, rfl⟩
      have ew : (mid : Int) + (m : Int) - 1 - (c : Int) = (pp : Int) := by omega
      have rp : IntKind.i64.wrap (pp : Int) = (pp : Int) := by rw [IntKind.wrap_i64]; omega
      have bp : (pp : Int) < (d.size : Int) := by omega
      have pz : (0 : Int) ≤ (pp : Int) := by omega
      have hpp2 : m ≤ pp ∧ pp < b := by omega
      have HPP := Lib.hid hpp
      clear hpp
      obtain ⟨xc, hxc⟩ : ∃ x, d[c]! = x := ⟨_, rfl⟩
      obtain ⟨xp, hxp⟩ : ∃ x, d[pp]! = x := ⟨_, rfl⟩
      have hcr : ltOf cf xp xc = lt xp xc := by rw [← hxc, ← hxp]; exact HP.out.2.2 c _ (by omega) (by omega) (by omega) (by omega)
      have lc := S1.out.ld R hs.symm P c (by omega)
      have lp := S1.out.ld R hs.symm P pp (by omega)
      rw [hxc] at lc
      rw [hxp] at lp
      have hcg := S1.out.cmp HC.out hs.symm xp xc
      have GR : Aside (∀ n os, SWK enc k w0 blk off d (grow (wr.drewN n) os)) := fun n os => S1.out.grown n os
      have HXC := Lib.hid hxc
      have HXP := Lib.hid hxp
      have HCR := Lib.hid hcr
      clear hxc hxp hcr S1
      by_cases hlv : cf xp xc < 0
      · have HB' : Hid (c < r0 → lt d[mid + m - c - 1]! d[c]! = true) := fun _ => by
          rw [show mid + m - c - 1 = pp by have := HPP.out; omega, HXC.out, HXP.out, ← HCR.out]; exact decide_eq_true hlv
        go_wp2_with fail
        go_quiet_grown (first | (go_at_fn g; refine Calls.grown_of (hcg _ _)))
        go_wp2_with fail
        go_roundg (c - st)
        case measure => omega
        case rel => exact ⟨st, c, rfl, rfl, by omega, by omega, by omega, by omega, GR.out nq osq, HA, HB'⟩
      · have HA' : Hid (s0 < c + 1 → lt d[mid + m - (c + 1)]! d[c + 1 - 1]! = false) := fun _ => by
          rw [show mid + m - (c + 1) = pp by have := HPP.out; omega, Nat.add_sub_cancel, HXC.out, HXP.out, ← HCR.out]; exact decide_eq_false hlv
        have hlv2 : decide (cf xp xc < 0) = false := decide_eq_false hlv
        have hlv3 : 0 ≤ cf xp xc := by omega
        go_wp2_with fail
        go_quiet_grown (first | (go_at_fn g; refine Calls.grown_of (hcg _ _)))
        go_wp2_with fail
        go_roundg (r - (c + 1))
        case measure => omega
        case rel => exact ⟨c + 1, r, by first | rfl | go_num, rfl, by omega, by omega, by omega, by omega, GR.out nq osq, HA', HB⟩
    · obtain rfl : st = r := by omega
      have hltz : ¬ (st : Int) < (st : Int) := by omega
      obtain ⟨e, he⟩ : ∃ e, mid + m - st = e := ⟨_, rfl⟩
      have eE : (mid : Int) + (m : Int) - (st : Int) = (e : Int) := by omega
      have he1 : st + e = mid + m := by omega
      have he2 : m ≤ e ∧ e ≤ b := by omega
      rw [he] at HA HB
      clear he
      go_upto_region 39 with (fail)
      go_cut [185] from 178 to 184 (fun s wr' => s = .bool (decide (st < m ∧ m < e)) ∧ Aside (SWK enc k w0 blk off d wr'))
      case first =>
        by_cases hr1 : st < m
        · have hz1 : (st : Int) < (m : Int) := by omega
          by_cases hr2 : m < e
          · have hz2 : (m : Int) < (e : Int) := by omega
            go_wp2_with fail
            go_meet
            exact ⟨by simp [hr1, hr2], S1⟩
          · have hz2 : ¬ (m : Int) < (e : Int) := by omega
            go_wp2_with fail
            go_meet
            exact ⟨by simp [hr2], S1⟩
        · have hz1 : ¬ (st : Int) < (m : Int) := by omega
          go_wp2_with fail
          go_meet
          exact ⟨by simp [hr1], S1⟩
      case rest =>
      clear S1
      obtain ⟨rfl, S1⟩ := hcut
      obtain ⟨bR, hbR⟩ : ∃ bR, decide (st < m ∧ m < e) = bR := ⟨_, rfl⟩
      rw [hbR]
      have HBR := Lib.hid hbR
      clear hbR
      go_upto_if 185 with (fail)
      go_cut [24] from 178 to 191 (fun s24 wr' => s24 = .int .i64 e ∧ Aside (∃ d1 : Array α, SWK enc k w0 blk off d1 wr' ∧ PermIn a b d d1 ∧ ∀ t, d1[t]! = rotG d st m e t))
      case first =>
        cases bR with
        | true =>
          have hr : st < m ∧ m < e := of_decide_eq_true HBR.out
          have hr1 := hr.1
          have hr2 := hr.2
          clear hr
          go_wp2_with fail
          refine (rotate_any k L enc g cb blk off cap st m e d0 d _ _ R hs S1.out hr1 hr2 (by omega) hsz).mono ?_
          rintro ee w1 ⟨rfl, d1, S2, hp, hr⟩
          have HH : Aside (∃ d1 : Array α, SWK enc k w0 blk off d1 w1 ∧ PermIn a b d d1 ∧ ∀ t, d1[t]! = rotG d st m e t) := ⟨d1, S2, permIn_mono _ _ _ _ _ _ (by omega) (by omega) hb hp, hr⟩
          clear S2 hp hr
          go_wp2_with fail
          go_meet
          exact ⟨rfl, HH⟩
        | false =>
          have hr : ¬ (st < m ∧ m < e) := of_decide_eq_false HBR.out
          have HH := fun w' (h : SWK enc k w0 blk off d w') => (show Aside (∃ d1 : Array α, SWK enc k w0 blk off d1 w' ∧ PermIn a b d d1 ∧ ∀ t, d1[t]! = rotG d st m e t) from ⟨d, h, permIn_refl _ _ _, fun t => rot_triv d st m e t (by omega) (by omega) (by omega)⟩)
          clear hr
          go_wp2_with fail
          go_meet
          exact ⟨rfl, HH _ S1.out⟩
      case rest =>
      obtain ⟨rfl, HD⟩ := hcut
      clear S1
      obtain ⟨d1, S1, hp1, hr1⟩ := HD.out
      have hd1 : d1.size = d.size := hp1.1
      have HPT := Lib.hid (sym_parts HP.out.1 HP.out.2.1 (by omega : a ≤ st) (by omega) he2.1 he2.2 he1 hr1)
      have HCX := Lib.hid (sym_cross HSW.out HP.out.1 HP.out.2.1 (by omega : a ≤ st) (by omega) he2.1 he2.2 he1 hr1 HA.out HB.out (by omega) (by omega) hi1 hjb)
      have HPR : Hid (SymPre cf lt d1 a st mid ∧ SymPre cf lt d1 mid e b) := by
        obtain ⟨z1, z2, z3, z4⟩ := HPT.out
        have hX := HP.out.2.2
        refine ⟨⟨z1, z2, fun i j y1 y2 y3 y4 => ?_⟩, ⟨z3, z4, fun i j y1 y2 y3 y4 => ?_⟩⟩
        · rw [hr1, hr1, rotG, rotG, if_pos (by omega), if_neg (by omega), if_neg (by omega)]
          exact hX _ _ (by omega) (by omega) (by omega) (by omega)
        · rw [hr1, hr1, rotG, rotG, if_neg (by omega), if_neg (by omega), if_neg (by omega), if_pos (by omega)]
          exact hX _ _ (by omega) (by omega) (by omega) (by omega)
      have HP1 := Lib.hid hp1
      have S1' : Aside (SWK enc k w0 blk off d1 wc) := S1
      clear hp1 hr1 S1 HD HBR HA HB
      go_upto_region 41 with (fail)
      go_cut [199] from 192 to 198 (fun s wr' => s = .bool (decide (a < st ∧ st < mid)) ∧ Aside (SWK enc k w0 blk off d1 wr'))
      case first =>
        by_cases hr1 : a < st
        · have hz1 : (a : Int) < (st : Int) := by omega
          by_cases hr2 : st < mid
          · have hz2 : (st : Int) < (mid : Int) := by omega
            go_wp2_with fail
            go_meet
            exact ⟨by simp [hr1, hr2], S1'⟩
          · have hz2 : ¬ (st : Int) < (mid : Int) := by omega
            go_wp2_with fail
            go_meet
            exact ⟨by simp [hr2], S1'⟩
        · have hz1 : ¬ (a : Int) < (st : Int) := by omega
          go_wp2_with fail
          go_meet
          exact ⟨by simp [hr1], S1'⟩
      case rest =>
      clear S1'
      obtain ⟨rfl, S1⟩ := hcut
      obtain ⟨bR, hbR⟩ : ∃ bR, decide (a < st ∧ st < mid) = bR := ⟨_, rfl⟩
      rw [hbR]
      have HBR := Lib.hid hbR
      clear hbR
      go_upto_if 199 with (fail)
      go_cut [24] from 192 to 205 (fun s24 wr' => s24 = .int .i64 e ∧ Aside (∃ d2 : Array α, SWK enc k w0 blk off d2 wr' ∧ PermIn a mid d1 d2 ∧ SortedIn lt a mid d2))
      case first =>
        cases bR with
        | true =>
          have hr : a < st ∧ st < mid := of_decide_eq_true HBR.out
          have hr1 := hr.1
          have hr2 := hr.2
          clear hr
          have hcall := HIH.out a st mid d1 _ (by omega) (by omega) S1.out hr1 hr2 (by omega) HPR.out.1
          rw [hd1] at hcall
          have HCALL := Lib.hid hcall
          clear hcall
          go_wp2_with fail
          refine HCALL.out.mono ?_
          rintro ee w1 ⟨rfl, d2, S2, hp, hr⟩
          have HH : Aside (∃ d2 : Array α, SWK enc k w0 blk off d2 w1 ∧ PermIn a mid d1 d2 ∧ SortedIn lt a mid d2) := ⟨d2, S2, hp, hr⟩
          clear S2 hp hr
          go_wp2_with fail
          go_meet
          exact ⟨rfl, HH⟩
        | false =>
          have hr : ¬ (a < st ∧ st < mid) := of_decide_eq_false HBR.out
          have hsrt : SortedIn lt a mid d1 := by
            rcases Nat.lt_or_ge a st with h | h
            · have : st = mid := by omega
              rw [← this]; exact HPT.out.1
            · have : a = st := by omega
              rw [this]; exact HPT.out.2.1
          have HH := fun w' (h : SWK enc k w0 blk off d1 w') => (show Aside (∃ d2 : Array α, SWK enc k w0 blk off d2 w' ∧ PermIn a mid d1 d2 ∧ SortedIn lt a mid d2) from ⟨d1, h, permIn_refl _ _ _, hsrt⟩)
          clear hr hsrt
          go_wp2_with fail
          go_meet
          exact ⟨rfl, HH _ S1.out⟩
      case rest =>
      obtain ⟨rfl, HD⟩ := hcut
      clear S1 HBR
      obtain ⟨d2, S2, hp2, hs2⟩ := HD.out
      have hd2 : d2.size = d.size := hp2.1.trans hd1
      have HPR2 : Hid (SymPre cf lt d2 mid e b) := by
        obtain ⟨z3, z4, hX⟩ := HPR.out.2
        refine ⟨fun i j y1 y2 y3 => ?_, fun i j y1 y2 y3 => ?_, fun i j y1 y2 y3 y4 => ?_⟩
        · rw [perm_out hp2 (.inr y1), perm_out hp2 (.inr (by omega))]; exact z3 i j y1 y2 y3
        · rw [perm_out hp2 (.inr (by omega)), perm_out hp2 (.inr (by omega))]; exact z4 i j y1 y2 y3
        · rw [perm_out hp2 (.inr (by omega)), perm_out hp2 (.inr (by omega))]; exact hX i j y1 y2 y3 y4
      have HP2 := Lib.hid hp2
      have HS2 := Lib.hid hs2
      have S2' : Aside (SWK enc k w0 blk off d2 wc) := S2
      clear hp2 hs2 S2 HD
      have hfin : ∀ d3 w', SWK enc k w0 blk off d3 w' → PermIn mid b d2 d3 → SortedIn lt mid b d3 → ∃ d' : Array α, SWK enc k w0 blk off d' w' ∧ PermIn a b d d' ∧ SortedIn lt a b d' := fun d3 w' hs3 hp3 ho3 => by
        obtain ⟨f1, f2⟩ := sym_whole (by omega) (by omega) (by omega) HCX.out HP2.out HS2.out hp3 ho3
        exact ⟨d3, hs3, permIn_trans _ _ _ _ _ HP1.out f2, f1⟩
      have HFIN := Lib.hid hfin
      clear hfin
      go_upto_region 43 with (fail)
      go_cut [213] from 206 to 212 (fun s wr' => s = .bool (decide (mid < e ∧ e < b)) ∧ Aside (SWK enc k w0 blk off d2 wr'))
      case first =>
        by_cases hr1 : mid < e
        · have hz1 : (mid : Int) < (e : Int) := by omega
          by_cases hr2 : e < b
          · have hz2 : (e : Int) < (b : Int) := by omega
            go_wp2_with fail
            go_meet
            exact ⟨by simp [hr1, hr2], S2'⟩
          · have hz2 : ¬ (e : Int) < (b : Int) := by omega
            go_wp2_with fail
            go_meet
            exact ⟨by simp [hr2], S2'⟩
        · have hz1 : ¬ (mid : Int) < (e : Int) := by omega
          go_wp2_with fail
          go_meet
          exact ⟨by simp [hr1], S2'⟩
      case rest =>
      clear S2'
      obtain ⟨rfl, S2⟩ := hcut
      by_cases hr : mid < e ∧ e < b
      · rw [decide_eq_true hr]
        have hcall := HIH.out mid e b d2 _ (by omega) (by omega) S2.out hr.1 hr.2 (by omega) HPR2.out
        rw [hd2] at hcall
        have HCALL := Lib.hid hcall
        clear hcall hr
        go_wp2_with fail
        refine HCALL.out.mono ?_
        rintro ee w1 ⟨rfl, d3, S3, hp, hs3⟩
        have HH := Lib.hid (HFIN.out d3 w1 S3 hp hs3)
        clear S3 hp hs3
        go_wp2_with fail
        go_end0
        exact ⟨rfl, HH.out⟩
      · rw [decide_eq_false hr]
        have hsrt : SortedIn lt mid b d2 := by
          rcases Nat.lt_or_ge mid e with h | h
          · have : e = b := by omega
            rw [← this]; exact HPR2.out.1
          · have : e = mid := by omega
            rw [← this]; exact HPR2.out.2.1
        have HSRT := Lib.hid hsrt
        clear hr hsrt
        go_wp2_with fail
        go_end0
        exact ⟨rfl, HFIN.out d2 _ S2.out (permIn_refl _ _ _) HSRT.out⟩

theorem sym_any (k : Nat) (L : Lays P k) (enc : α → List Value) (cf : α → α → Int) (lt : α → α → Bool) (Sw : SWO lt) (g : Nat) (cb : Array Value) (blk off cap : Nat) (d0 : Array α) (w0 : World)
    (eg : ∀ args w, (callFunc g args).run P w = .ok (.enter g args) w) (hcmp : CmpLays P g cb enc k cf blk off d0.size w0) (R : RowK enc k w0 blk off d0) (hsz : d0.size < 4611686018427387904) (n : Nat) :
    ∀ (a m b : Nat) (d : Array α) (w : World), b - a ≤ n → d0.size = d.size → SWK enc k w0 blk off d w → a < m → m < b → b ≤ d.size → SymPre cf lt d a m b →
      Calls P 114 #[.slice (some ⟨blk, off, none⟩) d.size cap, .int .i64 a, .int .i64 m, .int .i64 b, .func (.func g) #[] cb] w (SymPost enc k w0 blk off lt d a b) := by
  induction n with
  | zero => intro a m b d w h; omega
  | succ n ih =>
    intro a m b d w hn hs S ham hmb hb hpre
    by_cases h1 : m = a + 1
    · exact sym_left k L enc cf lt Sw g cb blk off cap a m b d0 d w0 w eg hcmp R hs S h1 hmb hb (by omega) hpre.2.1 hpre.2.2
    · by_cases h2 : b = m + 1
      · exact sym_right k L enc cf lt Sw g cb blk off cap a m b d0 d w0 w eg hcmp R hs S (by omega) h2 hb (by omega) hpre.1 hpre.2.2
      · exact sym_main k L enc cf lt Sw g cb blk off cap a m b d0 d w0 w eg hcmp R hs S (by omega) (by omega) hb (by omega) hpre
          (fun a' m' b' d' w' hlt hs' S' h3 h4 h5 hp' => ih a' m' b' d' w' (by omega) hs' S' h3 h4 h5 hp')
end SM
end Go.Proofs.Ythgkgjcnmahacaa
end

section
/- The stable sort by blocks: what holds of the blocks from stage to stage. Plain. -/
set_option linter.unusedSimpArgs false
set_option linter.unusedVariables false
namespace Go.Proofs.Ythgkgjcnmahacaa
open Go.Sort Go.Proofs
variable {α : Type} [Inhabited α] {lt l1 l2 : α → α → Bool}

theorem insInner_congr (a : Nat) : ∀ (j : Nat) (d : Array α), j < d.size → (∀ t, a ≤ t → t < j → l1 d[j]! d[t]! = l2 d[j]! d[t]!) → insInner l1 a j d = insInner l2 a j d
  | 0, _, _, _ => rfl
  | j + 1, d, hj, h => by
    unfold insInner
    by_cases ha : j + 1 > a
    · rw [h j (by omega) (by omega), insInner_congr a j (swp d (j + 1) j) (by rw [size_swp]; omega) (fun t h1 h2 => by
        rw [swp_get d hj (by omega), swp_get d hj (by omega), if_pos rfl, if_neg (by omega), if_neg (by omega)]
        exact h t h1 (by omega))]
    · simp [ha]
theorem insInner_perm (l : α → α → Bool) (a hi : Nat) : ∀ (j : Nat) (d : Array α), j < hi → hi ≤ d.size → PermIn a hi d (insInner l a j d)
  | 0, _, _, _ => permIn_refl _ _ _
  | j + 1, d, hj, h => by
    unfold insInner
    split
    · rename_i hc
      simp only [Bool.and_eq_true, decide_eq_true_eq] at hc
      exact permIn_trans _ _ _ _ _ (swp_permIn d a hi (j + 1) j (by omega) hj (by omega) (by omega) h) (insInner_perm l a hi j _ (by omega) (by rw [size_swp]; exact h))
    · exact permIn_refl _ _ _
theorem insOuter_congr (a b : Nat) : ∀ (n i : Nat) (d : Array α), b - i ≤ n → a < i → b ≤ d.size → (∀ s t, a ≤ s → s < t → i ≤ t → t < b → l1 d[t]! d[s]! = l2 d[t]! d[s]!) → insOuter l1 a b i d = insOuter l2 a b i d
  | 0, i, d, hn, _, _, _ => by rw [insOuter_stop l1 a b i d (by omega), insOuter_stop l2 a b i d (by omega)]
  | n + 1, i, d, hn, ha, hb, h => by
    by_cases hi : i < b
    · rw [insOuter_go l1 a b i d hi, insOuter_go l2 a b i d hi, insInner_congr a i d (by omega) (fun t h1 h2 => h t i h1 h2 (Nat.le_refl _) hi)]
      have hp := insInner_perm l2 a (i + 1) i d (by omega) (by omega)
      refine insOuter_congr a b n (i + 1) _ (by omega) (by omega) (by rw [hp.1]; exact hb) (fun s t h1 h2 h3 h4 => ?_)
      rw [hp.2.1 t (.inr h3)]
      by_cases hs : s < i + 1
      · exact permIn_all d _ a (i + 1) (fun v => l1 d[t]! v = l2 d[t]! v) (by omega) hp (fun x x1 x2 => h x t x1 (by omega) (by omega) h4) s h1 hs
      · rw [hp.2.1 s (.inr (by omega))]; exact h s t h1 h2 (by omega) h4
    · rw [insOuter_stop l1 a b i d hi, insOuter_stop l2 a b i d hi]
theorem ins_stable (S : SWO lt) {cf : α → α → Int} {d : Array α} {a b : Nat} (hab : a ≤ b) (hb : b ≤ d.size) (h : ∀ s t, a ≤ s → s < t → t < b → ltOf cf d[t]! d[s]! = lt d[t]! d[s]!) :
    PermIn a b d (insertionSort (ltOf cf) d a b) ∧ SortedIn lt a b (insertionSort (ltOf cf) d a b) := by
  have e : insertionSort (ltOf cf) d a b = insertionSort lt d a b := insOuter_congr a b (b - (a + 1)) (a + 1) d (Nat.le_refl _) (by omega) hb (fun s t h1 h2 h3 h4 => h s t h1 h2 h4)
  rw [e]
  exact insertionSort_holds S d a b hab hb

/-- A block: sorted, and of its own places' elements. -/
def OKb (lt : α → α → Bool) (tg : α → Nat) (d : Array α) (lo hi : Nat) : Prop := SortedIn lt lo hi d ∧ ∀ t, lo ≤ t → t < hi → lo ≤ tg d[t]! ∧ tg d[t]! < hi

theorem OKb.out {tg : α → Nat} {d d' : Array α} {lo hi a b : Nat} (h : OKb lt tg d lo hi) (hp : PermIn a b d d') (ho : hi ≤ a ∨ b ≤ lo) : OKb lt tg d' lo hi := by
  refine ⟨fun i j h1 h2 h3 => ?_, fun t h1 h2 => ?_⟩
  · rw [hp.2.1 i (by omega), hp.2.1 j (by omega)]; exact h.1 i j h1 h2 h3
  · rw [hp.2.1 t (by omega)]; exact h.2 t h1 h2
theorem OKb.tags {tg : α → Nat} {d d' : Array α} {lo hi : Nat} (hb : hi ≤ d.size) (hp : PermIn lo hi d d') (hs : SortedIn lt lo hi d') (h : ∀ t, lo ≤ t → t < hi → lo ≤ tg d[t]! ∧ tg d[t]! < hi) : OKb lt tg d' lo hi :=
  ⟨hs, permIn_all d d' lo hi (fun v => lo ≤ tg v ∧ tg v < hi) hb hp h⟩
theorem OKb.cross {tg : α → Nat} {cf : α → α → Int} (hc : ∀ x y, tg x < tg y → ltOf cf y x = lt y x) {d : Array α} {a m b : Nat} (h1 : OKb lt tg d a m) (h2 : OKb lt tg d m b) :
    ∀ i j, a ≤ i → i < m → m ≤ j → j < b → ltOf cf d[j]! d[i]! = lt d[j]! d[i]! := fun i j y1 y2 y3 y4 =>
  hc _ _ (by have := (h1.2 i y1 y2).2; have := (h2.2 j y3 y4).1; omega)
theorem OKb.join {tg : α → Nat} {d d' : Array α} {a m b : Nat} (hm : a ≤ m) (hmb : m ≤ b) (hb : b ≤ d.size) (h1 : OKb lt tg d a m) (h2 : OKb lt tg d m b) (hp : PermIn a b d d') (hs : SortedIn lt a b d') : OKb lt tg d' a b :=
  OKb.tags hb hp hs (fun t y1 y2 => by
    by_cases h : t < m
    · have := h1.2 t y1 h; omega
    · have := h2.2 t (by omega) y2; omega)

/-- All blocks of size bs from the q-th on. -/
def BlkFrom (lt : α → α → Bool) (tg : α → Nat) (bs n q0 : Nat) (d : Array α) : Prop := ∀ q, q0 ≤ q → q * bs < n → OKb lt tg d (q * bs) (min (q * bs + bs) n)
/-- All blocks of size bs ahead of the q-th. -/
def BlkTo (lt : α → α → Bool) (tg : α → Nat) (bs n q0 : Nat) (d : Array α) : Prop := ∀ q, q < q0 → q * bs < n → OKb lt tg d (q * bs) (min (q * bs + bs) n)

theorem BlkTo.step {tg : α → Nat} {bs n q : Nat} {d d' : Array α} (h : BlkTo lt tg bs n q d) (hp : PermIn (q * bs) (min (q * bs + bs) n) d d') (hn : OKb lt tg d' (q * bs) (min (q * bs + bs) n)) : BlkTo lt tg bs n (q + 1) d' := by
  intro p hpq hpn
  by_cases e : p = q
  · rw [e]; exact hn
  · refine (h p (by omega) hpn).out hp (.inl ?_)
    have : (p + 1) * bs ≤ q * bs := Nat.mul_le_mul_right _ (by omega)
    rw [Nat.add_mul, Nat.one_mul] at this
    exact Nat.le_trans (Nat.min_le_left _ _) this
theorem BlkFrom.step {tg : α → Nat} {bs n q hi : Nat} {d d' : Array α} {lo : Nat} (h : BlkFrom lt tg bs n q d) (hp : PermIn lo hi d d') (q' : Nat) (hq : q ≤ q') (hhi : hi ≤ q' * bs) : BlkFrom lt tg bs n q' d' := by
  intro p hpq hpn
  refine (h p (by omega) hpn).out hp (.inr ?_)
  exact Nat.le_trans hhi (Nat.mul_le_mul_right _ hpq)
theorem BlkTo.all {tg : α → Nat} {bs n q : Nat} {d : Array α} (h : BlkTo lt tg bs n q d) (hq : n ≤ q * bs) : BlkFrom lt tg bs n 0 d := fun p _ hpn => h p (by
  apply Nat.lt_of_not_le
  intro hc
  have := Nat.mul_le_mul_right bs hc
  omega) hpn

section
variable {tg : α → Nat} {cf : α → α → Int} {d d0 : Array α} {n q bs a : Nat}

/-- The stage of the insertions. -/
def Stage1 (lt : α → α → Bool) (tg : α → Nat) (d0 d : Array α) (n q a : Nat) : Prop :=
  a = q * 20 ∧ BlkTo lt tg 20 n q d ∧ (∀ t, a ≤ t → d[t]! = d0[t]!) ∧ PermIn 0 n d0 d

theorem stage1_start (lt : α → α → Bool) (tg : α → Nat) (d0 : Array α) (n : Nat) : Stage1 lt tg d0 d0 n 0 0 :=
  ⟨rfl, fun q h => by omega, fun _ _ => rfl, permIn_refl _ _ _⟩
theorem stage1_ins (S : SWO lt) (hc : ∀ x y, tg x < tg y → ltOf cf y x = lt y x) (h0 : ∀ t, t < n → tg d0[t]! = t) (h : Stage1 lt tg d0 d n q a) (b : Nat) (hab : a ≤ b) (hbn : b ≤ n) (hn : n ≤ d.size) (hq : b = min (a + 20) n) :
    (insertionSort (ltOf cf) d a b).size = d.size ∧ (b = a + 20 → Stage1 lt tg d0 (insertionSort (ltOf cf) d a b) n (q + 1) (a + 20)) ∧ (b = n → BlkFrom lt tg 20 n 0 (insertionSort (ltOf cf) d a b) ∧ PermIn 0 n d0 (insertionSort (ltOf cf) d a b)) := by
  obtain ⟨rfl, hB, hE, hP⟩ := h
  have htag : ∀ t, q * 20 ≤ t → t < b → tg d[t]! = t := fun t h1 h2 => by rw [hE t h1]; exact h0 t (by omega)
  obtain ⟨p1, p2⟩ := ins_stable (d := d) S hab (by omega) (fun s t h1 h2 h3 => hc _ _ (by rw [htag s h1 (by omega), htag t (by omega) h3]; exact h2))
  have hok := OKb.tags (tg := tg) (by omega) p1 p2 (fun t h1 h2 => by rw [htag t h1 h2]; omega)
  have hB' : BlkTo lt tg 20 n (q + 1) (insertionSort (ltOf cf) d (q * 20) b) := hB.step (by rw [← hq]; exact p1) (by rw [← hq]; exact hok)
  have hP' : PermIn 0 n d0 (insertionSort (ltOf cf) d (q * 20) b) := permIn_trans _ _ _ _ _ hP (permIn_mono _ _ _ _ _ _ (Nat.zero_le _) hbn hn p1)
  exact ⟨p1.1, fun hb => ⟨by omega, hB', fun t ht => by rw [p1.2.1 t (.inr (by omega))]; exact hE t (by omega), hP'⟩, fun hb => ⟨hB'.all (by omega), hP'⟩⟩

/-- The stage of the merges, within a round. -/
def Stage2 (lt : α → α → Bool) (tg : α → Nat) (d0 d : Array α) (n bs q a : Nat) : Prop :=
  a = q * (2 * bs) ∧ BlkTo lt tg (2 * bs) n q d ∧ BlkFrom lt tg bs n (2 * q) d ∧ PermIn 0 n d0 d

theorem two_q (q bs : Nat) : 2 * q * bs = q * (2 * bs) := by rw [Nat.mul_comm 2 q, Nat.mul_assoc]
theorem two_q1 (q bs : Nat) : (2 * q + 1) * bs = q * (2 * bs) + bs := by rw [Nat.add_mul, Nat.one_mul, two_q]
theorem two_q2 (q bs : Nat) : (q + 1) * (2 * bs) = q * (2 * bs) + 2 * bs := by rw [Nat.add_mul, Nat.one_mul]

theorem stage2_start {lt : α → α → Bool} {tg : α → Nat} {d0 d : Array α} {n bs : Nat} (h : BlkFrom lt tg bs n 0 d) (hP : PermIn 0 n d0 d) : Stage2 lt tg d0 d n bs 0 0 :=
  ⟨by simp, fun q h => by omega, h, hP⟩
/-- What the merge of the q-th pair is handed. -/
theorem stage2_pre (hc : ∀ x y, tg x < tg y → ltOf cf y x = lt y x) (h : Stage2 lt tg d0 d n bs q a) (b : Nat) (hb : b = min (a + 2 * bs) n) (hm : a + bs < n) :
    SortedIn lt a (a + bs) d ∧ SortedIn lt (a + bs) b d ∧ (∀ i j, a ≤ i → i < a + bs → a + bs ≤ j → j < b → ltOf cf d[j]! d[i]! = lt d[j]! d[i]!) ∧ OKb lt tg d a (a + bs) ∧ OKb lt tg d (a + bs) b := by
  obtain ⟨rfl, hT, hF, hP⟩ := h
  have h1 := hF (2 * q) (Nat.le_refl _) (by rw [two_q]; omega)
  have h2 := hF (2 * q + 1) (by omega) (by rw [two_q1]; omega)
  rw [two_q, Nat.min_eq_left (by omega)] at h1
  rw [two_q1, show min (q * (2 * bs) + bs + bs) n = b by omega] at h2
  exact ⟨h1.1, h2.1, h1.cross hc h2, h1, h2⟩
theorem stage2_step (hbs : 0 < bs) (h : Stage2 lt tg d0 d n bs q a) (b : Nat) (hb : b = min (a + 2 * bs) n) (hm : a + bs < n) (hn : n ≤ d.size) {d' : Array α} (ok1 : OKb lt tg d a (a + bs)) (ok2 : OKb lt tg d (a + bs) b) (hp : PermIn a b d d') (hs : SortedIn lt a b d') :
    (b = a + 2 * bs → Stage2 lt tg d0 d' n bs (q + 1) b) ∧ BlkTo lt tg (2 * bs) n (q + 1) d' ∧ PermIn 0 n d0 d' := by
  obtain ⟨rfl, hT, hF, hP⟩ := h
  have hj := OKb.join (by omega) (by omega) (by omega) ok1 ok2 hp hs
  have hT' : BlkTo lt tg (2 * bs) n (q + 1) d' := hT.step (by rw [← hb]; exact hp) (by rw [← hb]; exact hj)
  have hP' : PermIn 0 n d0 d' := permIn_trans _ _ _ _ _ hP (permIn_mono _ _ _ _ _ _ (Nat.zero_le _) (by omega) hn hp)
  exact ⟨fun e => ⟨by rw [two_q2]; exact e, hT', hF.step hp (2 * (q + 1)) (by omega) (by rw [two_q, two_q2]; omega), hP'⟩, hT', hP'⟩
/-- No second block is left. -/
theorem stage2_none (h : Stage2 lt tg d0 d n bs q a) (hm : n ≤ a + bs) : BlkTo lt tg (2 * bs) n (q + 1) d := by
  obtain ⟨rfl, hT, hF, hP⟩ := h
  intro p hp hpn
  by_cases e : p = q
  · subst e
    have h1 := hF (2 * p) (Nat.le_refl _) (by rw [two_q]; exact hpn)
    rw [two_q, Nat.min_eq_right (by omega)] at h1
    rw [Nat.min_eq_right (by omega)]
    exact h1
  · exact hT p (by omega) hpn
theorem stage2_end {d : Array α} (h : BlkTo lt tg (2 * bs) n (q + 1) d) (hq : n ≤ q * (2 * bs) + 2 * bs) : BlkFrom lt tg (2 * bs) n 0 d := h.all (by rw [two_q2]; exact hq)
theorem blk_sorted {d : Array α} (h : BlkFrom lt tg bs n 0 d) (hb : n ≤ bs) : SortedIn lt 0 n d := by
  intro i j h1 h2 h3
  have := h 0 (Nat.le_refl _) (by omega)
  rw [Nat.zero_mul, Nat.zero_add, Nat.min_eq_right hb] at this
  exact this.1 i j h1 h2 h3
end
end Go.Proofs.Ythgkgjcnmahacaa
end

section
/- The stable sort. -/
set_option linter.unusedSimpArgs false
set_option linter.unusedVariables false
namespace Go.Proofs.Ythgkgjcnmahacaa
open Go.Shelf Go.RowKit Go.Lib Go.Sort
namespace SM
variable {P : Program} {α : Type} [Inhabited α]

/-- What a comparison asks of the world: nothing; it may lay blocks of its own. -/
def CmpAny (P : Program) (g : Nat) (cb : Array Value) (enc : α → List Value) (cf : α → α → Int) : Prop :=
  ∀ (W : World) (x y : α), Calls P g (#[.agg (enc x).toArray, .agg (enc y).toArray] ++ cb) W fun e w' => e = .returned (.int .i64 (cf x y)) ∧ ∃ q os', w' = grow (W.drewN q) os'

theorem ins_z (k : Nat) (L : Lays P k) (enc : α → List Value) (cf : α → α → Int) (g : Nat) (cb : Array Value) (blk off cap a b : Nat) (d0 d : Array α) (w0 w : World)
    (eg : ∀ args w, (callFunc g args).run P w = .ok (.enter g args) w) (hcmp : CmpAny P g cb enc cf)
    (R : RowK enc k w0 blk off d0) (hs : d0.size = d.size) (S : SWK enc k w0 blk off d w) (hab : a ≤ b) (hb : b ≤ d.size) (hsz : d.size < 4611686018427387904) (s : Nat) (az bz : Int) (h0 : s = d.size) (h1 : az = a) (h2 : bz = b) :
    Calls P 113 #[.slice (some ⟨blk, off, none⟩) s cap, .int .i64 az, .int .i64 bz, .func (.func g) #[] cb] w fun e w' => e = .returned (.tuple #[]) ∧ SWK enc k w0 blk off (insertionSort (ltOf cf) d a b) w' := by
  subst h0 h1 h2
  have h := AnyQ.insertionSortCmpFunc L.ins k L.aE L.zE enc R.hk R.h1 cf g cb blk off cap a b d w eg (fun _ _ _ _ x y => hcmp _ x y) (S.holds R.hblk R.hH hs.symm) (S.lt R.hblk) hab hb hsz
  refine h.mono ?_
  rintro e w' ⟨rfl, n, os, rfl⟩
  refine ⟨rfl, S.on R.hblk n _ os ?_⟩
  have : ∀ a b n i (dk : Array α), b - i ≤ n → (insOuter (ltOf cf) a b i dk).size = dk.size := by
    intro a b n
    induction n with
    | zero => intro i dk hn; rw [insOuter_stop _ _ _ _ _ (by omega)]
    | succ n ih =>
      intro i dk hn
      by_cases hi : i < b
      · rw [insOuter_go _ _ _ _ _ hi, ih _ _ (by omega)]
        have : ∀ (j : Nat) (dk : Array α), (insInner (ltOf cf) a j dk).size = dk.size := by
          intro j
          induction j with
          | zero => intro dk; rfl
          | succ j ihj => intro dk; unfold insInner; split <;> simp [ihj, size_swp]
        exact this _ _
      · rw [insOuter_stop _ _ _ _ _ hi]
  exact this a b _ _ d (Nat.le_refl _)

theorem sym_z (k : Nat) (L : Lays P k) (enc : α → List Value) (cf : α → α → Int) (lt : α → α → Bool) (Sw : SWO lt) (g : Nat) (cb : Array Value) (blk off cap a m b : Nat) (d0 d : Array α) (w0 w : World)
    (eg : ∀ args w, (callFunc g args).run P w = .ok (.enter g args) w) (hcmp : CmpAny P g cb enc cf)
    (R : RowK enc k w0 blk off d0) (hs : d0.size = d.size) (S : SWK enc k w0 blk off d w) (ham : a < m) (hmb : m < b) (hb : b ≤ d.size) (hsz : d.size < 4611686018427387904) (hpre : SymPre cf lt d a m b) (s : Nat) (az mz bz : Int) (h0 : s = d.size) (h1 : az = a) (h2 : mz = m) (h3 : bz = b) :
    Calls P 114 #[.slice (some ⟨blk, off, none⟩) s cap, .int .i64 az, .int .i64 mz, .int .i64 bz, .func (.func g) #[] cb] w (SymPost enc k w0 blk off lt d a b) := by
  subst h0 h1 h2 h3
  exact sym_any k L enc cf lt Sw g cb blk off cap d0 w0 eg (fun _ _ _ _ x y => hcmp _ x y) R (by omega) (b - a) a m b d w (Nat.le_refl _) hs S ham hmb hb hpre

def StabPost (enc : α → List Value) (k : Nat) (w0 : World) (blk off : Nat) (lt : α → α → Bool) (d : Array α) (e : Ending) (w' : World) : Prop :=
  e = .returned (.tuple #[]) ∧ ∃ d' : Array α, SWK enc k w0 blk off d' w' ∧ PermIn 0 d.size d d' ∧ SortedIn lt 0 d.size d'

set_option maxHeartbeats 8000000 in
set_option maxRecDepth 1000000 in
theorem stable_any (k : Nat) (L : Lays P k) (enc : α → List Value) (cf : α → α → Int) (lt : α → α → Bool) (Sw : SWO lt) (tg : α → Nat) (hct : ∀ x y, tg x < tg y → ltOf cf y x = lt y x) (g : Nat) (cb : Array Value) (blk off cap : Nat) (d0 : Array α) (w0 : World)
    (eg : ∀ args w, (callFunc g args).run P w = .ok (.enter g args) w) (hcmp : CmpAny P g cb enc cf)
    (R : RowK enc k w0 blk off d0) (htg : ∀ t, t < d0.size → tg d0[t]! = t) (hsz : d0.size < 1152921504606846976) :
    Calls P 88 #[.slice (some ⟨blk, off, none⟩) d0.size cap, .int .i64 d0.size, .func (.func g) #[] cb] w0 (StabPost enc k w0 blk off lt d0) := by
  have mixed := L.mixed; have aE := L.aE; have zE := L.zE; have t0 := L.t0; have a0 := L.a0; have z0 := L.z0; have v0 := L.v0; have t3 := L.t3; have a3 := L.a3; have z3 := L.z3; have v3 := L.v3; have t4 := L.t4; have a4 := L.a4; have z4 := L.z4; have v4 := L.v4; have tu := L.tu; have au := L.au; have zu := L.zu; have vu := L.vu; have tS := L.tS; have aS := L.aS; have zS := L.zS; have vS := L.vS; have tC := L.tC; have aC := L.aC; have zC := L.zC; have vC := L.vC
  have FG := L.fStab
  have eIns : ∀ args w, (callFunc 113 args).run P w = .ok (.enter 113 args) w := L.ins.f20.enters rfl
  have eSym : ∀ args w, (callFunc 114 args).run P w = .ok (.enter 114 args) w := enters_of L.fSym (by kernel_rfl) rfl
  have S0 : Aside (SWK enc k w0 blk off d0 w0) := SWK.start R.hH
  have HC : Aside _ := hcmp
  have HCT := Lib.hid hct
  have HTG := Lib.hid htg
  have HSW := Lib.hid Sw
  clear hcmp hct htg Sw
  go_enter FG, Try.ntmps88
  go_wp2_with fail
  go_loopg [7, 8] d0.size (fun kx s7 s8 wr => ∃ (q a : Nat) (d : Array α), s7 = .int .i64 a ∧ s8 = .int .i64 ((a : Int) + 20) ∧ a ≤ d0.size ∧ d0.size - a ≤ kx ∧ d.size = d0.size ∧ Aside (SWK enc k w0 blk off d wr) ∧ Hid (Stage1 lt tg d0 d d0.size q a))
  case atStart => exact ⟨0, 0, d0, rfl, by first | rfl | go_num, Nat.zero_le _, by omega, rfl, S0, stage1_start lt tg d0 d0.size⟩
  case round =>
    clear S0
    obtain ⟨q, a, d, rfl, rfl, ha, hkx, hds, S1, H1⟩ := hrel
    by_cases hlt : a + 20 ≤ d0.size
    · have hltz : (a : Int) + 20 ≤ (d0.size : Int) := by omega
      have HN := Lib.hid (stage1_ins HSW.out HCT.out HTG.out H1.out (a + 20) (by omega) hlt (by omega) (by omega))
      obtain ⟨hz, HST, _⟩ := HN.out
      have HST' := Lib.hid (HST rfl)
      clear HST HN
      go_wp2_with fail
      refine (ins_z k L enc cf g cb blk off cap a (a + 20) d0 d w0 _ eg HC.out R hds.symm S1.out (by omega) (by omega) (by omega) _ _ _ hds.symm rfl (by omega)).mono ?_
      rintro e w1 ⟨rfl, S2⟩
      have S2' : Aside (SWK enc k w0 blk off (insertionSort (ltOf cf) d a (a + 20)) w1) := S2
      clear S1 S2
      go_wp2_with fail
      go_roundg (d0.size - (a + 20))
      case measure => omega
      case rel => exact ⟨q + 1, a + 20, _, by first | rfl | go_num, by first | rfl | go_num, by omega, by omega, by rw [hz]; exact hds, S2', HST'⟩
    · have hltz : ¬ (a : Int) + 20 ≤ (d0.size : Int) := by omega
      have HN := Lib.hid (stage1_ins HSW.out HCT.out HTG.out H1.out d0.size ha (Nat.le_refl _) (by omega) (by omega))
      obtain ⟨hz, _, HST⟩ := HN.out
      have HST' := Lib.hid (HST rfl)
      clear HST HN
      go_wp2_with fail
      refine (ins_z k L enc cf g cb blk off cap a d0.size d0 d w0 _ eg HC.out R hds.symm S1.out (by omega) (by omega) (by omega) _ _ _ hds.symm rfl rfl).mono ?_
      rintro e w1 ⟨rfl, S2⟩
      have S2' : Aside (SWK enc k w0 blk off (insertionSort (ltOf cf) d a d0.size) w1) := S2
      have hz2 : (insertionSort (ltOf cf) d a d0.size).size = d0.size := hz.trans hds
      generalize insertionSort (ltOf cf) d a d0.size = e1 at HST' S2' hz2
      clear S1 S2 hz
      go_wp2_with fail
      go_loopg [6] d0.size (fun kx s6 wr => ∃ (bs : Nat) (d : Array α), s6 = .int .i64 bs ∧ 20 ≤ bs ∧ bs ≤ 2 * d0.size + 20 ∧ d0.size - bs ≤ kx ∧ d.size = d0.size ∧ Aside (SWK enc k w0 blk off d wr) ∧ Hid (BlkFrom lt tg bs d0.size 0 d ∧ PermIn 0 d0.size d0 d))
      case atStart => exact ⟨20, e1, rfl, Nat.le_refl _, by omega, by omega, hz2, S2', HST'⟩
      case round =>
        clear S2' HST' hz2
        obtain ⟨bs, d, rfl, hb1, hb2, hkx, hds, S1, H1⟩ := hrel
        by_cases hlt : bs < d0.size
        · have hltz : (bs : Int) < (d0.size : Int) := by omega
          go_wp2_with fail
          have HS2 := Lib.hid (stage2_start H1.out.1 H1.out.2)
          clear H1
          go_loopg [7, 8] d0.size (fun kx s7 s8 wr => ∃ (q a2 : Nat) (d : Array α), s7 = .int .i64 a2 ∧ s8 = .int .i64 ((a2 : Int) + 2 * (bs : Int)) ∧ a2 ≤ d0.size ∧ d0.size - a2 ≤ kx ∧ d.size = d0.size ∧ Aside (SWK enc k w0 blk off d wr) ∧ Hid (Stage2 lt tg d0 d d0.size bs q a2))
          case atStart => exact ⟨0, 0, d, rfl, by first | rfl | (congr 1; omega), Nat.zero_le _, by omega, hds, S1, HS2⟩
          case round =>
            clear S1 HS2 hds
            obtain ⟨q, a2, d, rfl, rfl, ha2, hkx2, hds, S1, H1⟩ := hrel
            by_cases hlt2 : a2 + 2 * bs ≤ d0.size
            · have hltz2 : (a2 : Int) + 2 * (bs : Int) ≤ (d0.size : Int) := by omega
              have HP := Lib.hid (stage2_pre HCT.out H1.out (a2 + 2 * bs) (by omega) (by omega))
              go_wp2_with fail
              refine (sym_z k L enc cf lt HSW.out g cb blk off cap a2 (a2 + bs) (a2 + 2 * bs) d0 d w0 _ eg HC.out R hds.symm S1.out (by omega) (by omega) (by omega) (by omega) ⟨HP.out.1, HP.out.2.1, HP.out.2.2.1⟩ _ _ _ _ hds.symm rfl (by omega) (by omega)).mono ?_
              rintro e w1 ⟨rfl, d', S2, hp, hs⟩
              have S2' : Aside (SWK enc k w0 blk off d' w1) := S2
              have hds' : d'.size = d0.size := hp.1.trans hds
              have HST := Lib.hid ((stage2_step (by omega) H1.out (a2 + 2 * bs) (by omega) (by omega) (by omega) HP.out.2.2.2.1 HP.out.2.2.2.2 hp hs).1 rfl)
              clear S1 S2 hp hs
              go_wp2_with fail
              go_roundg (d0.size - (a2 + 2 * bs))
              case measure => omega
              case rel => exact ⟨q + 1, a2 + 2 * bs, d', by first | rfl | (congr 1; omega), by first | rfl | (congr 1; omega), by omega, by omega, hds', S2', HST⟩
            · have hltz2 : ¬ (a2 : Int) + 2 * (bs : Int) ≤ (d0.size : Int) := by omega
              by_cases hm : a2 + bs < d0.size
              · have hmz : (a2 : Int) + (bs : Int) < (d0.size : Int) := by omega
                have HP := Lib.hid (stage2_pre HCT.out H1.out d0.size (by omega) hm)
                go_wp2_with fail
                refine (sym_z k L enc cf lt HSW.out g cb blk off cap a2 (a2 + bs) d0.size d0 d w0 _ eg HC.out R hds.symm S1.out (by omega) hm (by omega) (by omega) ⟨HP.out.1, HP.out.2.1, HP.out.2.2.1⟩ _ _ _ _ hds.symm rfl (by omega) rfl).mono ?_
                rintro e w1 ⟨rfl, d', S2, hp, hs⟩
                have S2' : Aside (SWK enc k w0 blk off d' w1) := S2
                have hds' : d'.size = d0.size := hp.1.trans hds
                have HST := stage2_step (by omega) H1.out d0.size (by omega) hm (by omega) HP.out.2.2.2.1 HP.out.2.2.2.2 hp hs
                have HEND : Hid (BlkFrom lt tg (2 * bs) d0.size 0 d' ∧ PermIn 0 d0.size d0 d') := ⟨stage2_end HST.2.1 (by have := H1.out.1; omega), HST.2.2⟩
                clear S1 S2 hp hs HST
                go_wp2_with fail
                go_roundg (d0.size - 2 * bs)
                case measure => omega
                case rel => exact ⟨2 * bs, d', by first | rfl | (congr 1; omega), by omega, by omega, by omega, hds', S2', HEND⟩
              · have hmz : ¬ (a2 : Int) + (bs : Int) < (d0.size : Int) := by omega
                have HEND : Hid (BlkFrom lt tg (2 * bs) d0.size 0 d ∧ PermIn 0 d0.size d0 d) := ⟨stage2_end (stage2_none H1.out (by omega)) (by have := H1.out.1; omega), H1.out.2.2.2⟩
                go_wp2_with fail
                go_roundg (d0.size - 2 * bs)
                case measure => omega
                case rel => exact ⟨2 * bs, d, by first | rfl | (congr 1; omega), by omega, by omega, by omega, hds, S1, HEND⟩
        · have hltz : ¬ (bs : Int) < (d0.size : Int) := by omega
          have HF := Lib.hid (blk_sorted H1.out.1 (by omega))
          go_wp2_with fail
          go_end0
          exact ⟨rfl, d, S1.out, H1.out.2, HF.out⟩
end SM
end Go.Proofs.Ythgkgjcnmahacaa
end

section
/- A stable order of a list: what it is, that it is one, how it grows by an element. Plain. -/
set_option linter.unusedSimpArgs false
set_option linter.unusedVariables false
namespace Go.Proofs.Ythgkgjcnmahacaa
open Go.Sort Go.Proofs
variable {β : Type} {cf : β → β → Int}

/-- Ahead: by the comparison, else by the place. -/
def tlt (cf : β → β → Int) (x y : β × Nat) : Bool := decide (cf x.1 y.1 < 0) || (!decide (cf y.1 x.1 < 0) && decide (x.2 < y.2))

theorem tlt_iff (x y : β × Nat) : tlt cf x y = true ↔ (cf x.1 y.1 < 0 ∨ (¬ cf y.1 x.1 < 0 ∧ x.2 < y.2)) := by simp [tlt]
theorem tlt_not (x y : β × Nat) : tlt cf x y = false ↔ (¬ cf x.1 y.1 < 0 ∧ (cf y.1 x.1 < 0 ∨ y.2 ≤ x.2)) := by
  rw [← Bool.not_eq_true, tlt_iff]
  constructor
  · intro h
    refine ⟨fun h1 => h (.inl h1), ?_⟩
    by_cases h2 : cf y.1 x.1 < 0
    · exact .inl h2
    · exact .inr (Nat.le_of_not_lt fun h3 => h (.inr ⟨h2, h3⟩))
  · rintro ⟨h1, h2⟩ (h | ⟨h3, h4⟩)
    · exact h1 h
    · rcases h2 with h2 | h2
      · exact h3 h2
      · omega

/-- The comparison is a strict weak order. -/
structure Cmp (cf : β → β → Int) : Prop where
  irrefl : ∀ x, ¬ cf x x < 0
  asymm : ∀ x y, cf x y < 0 → ¬ cf y x < 0
  ntrans : ∀ x y z, ¬ cf x y < 0 → ¬ cf y z < 0 → ¬ cf x z < 0

theorem Cmp.trans (C : Cmp cf) {x y z : β} (h1 : cf x y < 0) (h2 : cf y z < 0) : cf x z < 0 := by
  by_cases h : cf x z < 0
  · exact h
  · exact absurd h1 (C.ntrans x z y h (C.asymm _ _ h2))
theorem Cmp.lt_of_lt_of_le (C : Cmp cf) {x y z : β} (h1 : cf x y < 0) (h2 : ¬ cf z y < 0) : cf x z < 0 := by
  by_cases h : cf x z < 0
  · exact h
  · exact absurd h1 (C.ntrans x z y h h2)
theorem Cmp.swo (C : Cmp cf) : SWO (tlt cf) where
  irrefl x := by rw [tlt_not]; exact ⟨C.irrefl _, .inr (Nat.le_refl _)⟩
  trans x y z h1 h2 := by
    rw [tlt_iff] at *
    rcases h1 with h1 | ⟨h1, h1'⟩ <;> rcases h2 with h2 | ⟨h2, h2'⟩
    · exact .inl (C.trans h1 h2)
    · exact .inl (C.lt_of_lt_of_le h1 h2)
    · left
      by_cases h : cf x.1 z.1 < 0
      · exact h
      · exact absurd h2 (C.ntrans _ _ _ h1 h)
    · exact .inr ⟨C.ntrans _ _ _ h2 h1, by omega⟩
  ntrans x y z h1 h2 := by
    rw [tlt_not] at *
    refine ⟨C.ntrans _ _ _ h1.1 h2.1, ?_⟩
    rcases h1.2 with h3 | h3
    · left
      by_cases h : cf z.1 x.1 < 0
      · exact h
      · exact absurd h3 (C.ntrans _ _ _ h2.1 h)
    · rcases h2.2 with h4 | h4
      · left
        by_cases h : cf z.1 x.1 < 0
        · exact h
        · exact absurd h4 (C.ntrans _ _ _ h h1.1)
      · exact .inr (by omega)
theorem tlt_total {x y : β × Nat} (h : tlt cf y x = false) (hne : x.2 ≠ y.2) : tlt cf x y = true := by
  rw [tlt_not] at h
  rw [tlt_iff]
  rcases h.2 with h2 | h2
  · exact .inl h2
  · by_cases h3 : cf x.1 y.1 < 0
    · exact .inl h3
    · exact .inr ⟨h.1, by omega⟩

/-- ys is the stable order of xs. -/
def IsStable (cf : β → β → Int) (xs ys : List β) : Prop :=
  ∃ ts : List (β × Nat), ts.Perm xs.zipIdx ∧ ts.Pairwise (fun x y => tlt cf x y = true) ∧ ys = ts.map (·.1)

theorem perm_sorted_eq {γ : Type} {r : γ → γ → Prop} (has : ∀ x y, r x y → r y x → False) : ∀ {l m : List γ}, l.Perm m → l.Pairwise r → m.Pairwise r → l = m
  | [], m, h, _, _ => by simpa using h.symm.eq_nil
  | a :: l, [], h, _, _ => by simpa using h.eq_nil
  | a :: l, b :: m, h, h1, h2 => by
    rw [List.pairwise_cons] at h1 h2
    have hab : a = b := by
      have ha : a ∈ b :: m := h.mem_iff.1 (by simp)
      have hb : b ∈ a :: l := h.mem_iff.2 (by simp)
      rcases List.mem_cons.1 ha with e | ha
      · exact e
      · rcases List.mem_cons.1 hb with e | hb
        · exact e.symm
        · exact (has a b (h1.1 b hb) (h2.1 a ha)).elim
    subst hab
    rw [perm_sorted_eq has ((List.perm_cons a).1 h) h1.2 h2.2]
theorem IsStable.unique (C : Cmp cf) {xs ys zs : List β} (h1 : IsStable cf xs ys) (h2 : IsStable cf xs zs) : ys = zs := by
  obtain ⟨t1, p1, s1, rfl⟩ := h1
  obtain ⟨t2, p2, s2, rfl⟩ := h2
  rw [perm_sorted_eq (fun x y h1 h2 => by rw [C.swo.asymmA h1] at h2; cases h2) (p1.trans p2.symm) s1 s2]
theorem IsStable.perm {xs ys : List β} (h : IsStable cf xs ys) : ys.Perm xs := by
  obtain ⟨ts, p, _, rfl⟩ := h
  have := p.map (·.1)
  rwa [List.zipIdx_map_fst] at this
theorem IsStable.nil : IsStable cf [] [] := ⟨[], by simp, List.Pairwise.nil, rfl⟩

/-- One element more, laid in behind what it is not ahead of. -/
theorem IsStable.snoc (C : Cmp cf) {xs A B : List β} (h : IsStable cf xs (A ++ B)) {p : β} (hA : ∀ a, A.getLast? = some a → ¬ cf p a < 0) (hB : ∀ b ∈ B, cf p b < 0) : IsStable cf (xs ++ [p]) (A ++ p :: B) := by
  obtain ⟨ts, hp, hs, he⟩ := h
  obtain ⟨tA, tB, rfl, rfl, rfl⟩ : ∃ tA tB, ts = tA ++ tB ∧ A = tA.map (·.1) ∧ B = tB.map (·.1) := by
    obtain ⟨tA, tB, h1, h2, h3⟩ := List.map_eq_append_iff.1 he.symm
    exact ⟨tA, tB, h1, h2.symm, h3.symm⟩
  rw [List.pairwise_append] at hs
  obtain ⟨sA, sB, sAB⟩ := hs
  have htag : ∀ x ∈ tA ++ tB, x.2 < xs.length := fun x hx => by
    have := hp.mem_iff.1 hx
    have := List.mem_zipIdx this
    omega
  refine ⟨tA ++ (p, xs.length) :: tB, ?_, ?_, by simp⟩
  · have h1 : (tA ++ (p, xs.length) :: tB).Perm ((p, xs.length) :: (tA ++ tB)) := List.perm_middle
    rw [List.zipIdx_append]
    refine h1.trans (((List.perm_cons _).2 hp).trans ?_)
    have : [p].zipIdx xs.length = [(p, xs.length)] := rfl
    simp only [Nat.zero_add, this]
    exact (List.perm_append_singleton _ _).symm
  · rw [List.pairwise_append]
    refine ⟨sA, ?_, ?_⟩
    · rw [List.pairwise_cons]
      exact ⟨fun b hb => by rw [tlt_iff]; exact .inl (hB b.1 (List.mem_map.2 ⟨b, hb, rfl⟩)), sB⟩
    · intro a ha b hb
      rcases List.mem_cons.1 hb with rfl | hb
      · rw [tlt_iff]
        right
        refine ⟨?_, htag a (by simp [ha])⟩
        cases hl : tA.getLast? with
        | none => rw [List.getLast?_eq_none_iff] at hl; rw [hl] at ha; cases ha
        | some z =>
          have hz := hA z.1 (by rw [List.getLast?_map, hl]; rfl)
          obtain ⟨t0, rfl⟩ := List.getLast?_eq_some_iff.1 hl
          rw [List.pairwise_append] at sA
          rcases List.mem_append.1 ha with ha | ha
          · have := sA.2.2 a ha z (by simp)
            exact C.ntrans _ _ _ hz (by rw [tlt_iff] at this; rcases this with h | h; exact C.asymm _ _ h; exact h.1)
          · simp at ha; rw [ha]; exact hz
      · exact sAB a ha b hb

/-- What the sort of the tagged row comes to. -/
theorem IsStable.of_sorted (C : Cmp cf) [Inhabited β] {xs : List β} {d' : Array (β × Nat)} (hp : PermIn 0 xs.zipIdx.toArray.size xs.zipIdx.toArray d') (hs : SortedIn (tlt cf) 0 xs.zipIdx.toArray.size d') : IsStable cf xs (d'.toList.map (·.1)) := by
  have hsz : d'.size = xs.zipIdx.toArray.size := hp.1
  have hperm : d'.toList.Perm xs.zipIdx := by
    have h := hp.2.2
    have e1 : d'.extract 0 xs.zipIdx.toArray.size = d' := by rw [← hsz]; simp
    have e2 : xs.zipIdx.toArray.extract 0 xs.zipIdx.toArray.size = xs.zipIdx.toArray := by
      simp
      exact List.take_of_length_le (by simp)
    rw [e1, e2] at h
    exact h
  refine ⟨d'.toList, hperm, ?_, rfl⟩
  have hnd : (d'.toList.map (·.2)).Nodup := by
    have := (hperm.map (·.2)).nodup_iff
    rw [this, List.zipIdx_map_snd]
    exact List.nodup_range'
  rw [List.pairwise_iff_getElem]
  intro i j hi hj hij
  simp only [Array.length_toList] at hi hj
  have h1 := hs i j (Nat.zero_le _) hij (by omega)
  rw [getElem!_pos d' i hi, getElem!_pos d' j hj] at h1
  simp only [Array.getElem_toList]
  refine tlt_total h1 (fun e => ?_)
  have h2 := (List.nodup_iff_pairwise_ne.1 hnd)
  rw [List.pairwise_iff_getElem] at h2
  have := h2 i j (by simpa using hi) (by simpa using hj) hij
  simp only [List.getElem_map, Array.getElem_toList] at this
  exact this e
end Go.Proofs.Ythgkgjcnmahacaa
end

section
/- Between two vocabularies: a slice of the call's own, and the row that the sort turns. Plain laws over any program. -/
set_option linter.unusedSimpArgs false
set_option linter.unusedVariables false
namespace Go.Proofs.Ythgkgjcnmahacaa
open Go Go.Sort Go.RowKit Go.Proofs
variable {β : Type} [Inhabited β] {enc : β → List Value} {sz : Nat}

def encT (enc : β → List Value) (p : β × Nat) : List Value := enc p.1

theorem flatK_cells (C : Codec enc sz) (d : Array (β × Nat)) : flatK (encT enc) sz d = (cellsOf enc (d.toList.map (·.1))).toArray := by
  apply Array.ext
  · simp [cellsOf_len C]
  · intro t h1 h2
    simp only [size_flatK] at h1
    have hd : t / sz < d.size := (Nat.div_lt_iff_lt_mul C.pos).2 h1
    have hm : t % sz < sz := Nat.mod_lt _ C.pos
    have e1 := get_flatK (encT enc) sz d t h1
    rw [getElem!_pos _ t (by simpa using h1)] at e1
    rw [e1, getElem!_pos d _ hd]
    have hx : (d.toList.map (·.1))[t / sz]? = some d[t / sz].1 := by simp [hd]
    have := cellsOf_get C (d.toList.map (·.1)) _ _ hx (t % sz) hm
    rw [show t / sz * sz + t % sz = t by rw [Nat.mul_comm]; exact Nat.div_add_mod t sz] at this
    unfold encT
    rw [getElem!_pos _ _ (by rw [C.len]; exact hm)]
    simp only [List.getElem_toArray]
    rw [List.getElem?_eq_getElem (by simpa [cellsOf_len C] using h1), List.getElem?_eq_getElem (by rw [C.len]; exact hm)] at this
    exact (Option.some.inj this).symm

theorem holds_of_own (C : Codec enc sz) {w : World} {g : Nat} {cur : Array Value} {e : TypeId} {xs : List β} (hb : w.heap[g]? = some (.cells cur e (0, 0))) (ht : cur.toList.take (xs.length * sz) = cellsOf enc xs) : HoldsK (encT enc) sz w g 0 xs.zipIdx.toArray := by
  unfold HoldsK
  rw [flatK_cells C]
  have hz : xs.zipIdx.toArray.toList.map (·.1) = xs := by simp [List.zipIdx_map_fst]
  rw [hz]
  intro j hj
  have hj' : j < xs.length * sz := by simpa [cellsOf_len C] using hj
  refine ⟨?_, by simp [World.frozen?, hb]⟩
  have h1 : (cur.toList.take (xs.length * sz))[j]? = (cellsOf enc xs)[j]? := by rw [ht]
  rw [List.getElem?_take_of_lt hj'] at h1
  simp only [World.cell?, hb, Nat.zero_add]
  simp only [Option.isSome_none, Bool.false_eq_true, if_false]
  rw [← Array.getElem?_toList, h1, getElem!_pos _ j hj]
  simp at hj
  simp [hj]

theorem heap_put {w : World} {g n : Nat} {os : Array Obj} {cur : Array Value} {e : TypeId} {fr : Nat × Nat} (F : Array Value) (hb : w.heap[g]? = some (.cells cur e fr)) :
    (grow (putRow id (Sort.ahead w n) g 0 F) os).heap[g]? = some (.cells (putCells id 0 F cur) e fr) := by
  have hg : g < w.heap.size := (Array.getElem?_eq_some_iff.1 hb).1
  rw [heap_grow_old _ _ (by simpa using hg)]
  simp [putRow, mapBlock, Sort.ahead, Array.getElem?_modify, hb, onCells]

theorem grownBy_put {w : World} {g n : Nat} {os : Array Obj} (F : Array Value) : w.grownBy (grow (putRow id (Sort.ahead w n) g 0 F) os) (some g) := by
  refine ⟨rfl, rfl, rfl, by simp, fun k hk hne => ?_⟩
  rw [heap_grow_old _ _ (by simpa using hk)]
  have : g ≠ k := fun e => hne (by rw [e])
  simp [putRow, mapBlock, Sort.ahead, Array.getElem?_modify, this]

theorem take_put (cur : Array Value) (l : List Value) (h : l.length ≤ cur.size) : (putCells id 0 l.toArray cur).toList.take l.length = l := by
  apply List.ext_getElem?
  intro j
  by_cases hj : j < l.length
  · rw [List.getElem?_take_of_lt hj, Array.getElem?_toList]
    simp [putCells, hj, show j < cur.size by omega]
  · rw [List.getElem?_take_eq_none (by omega), List.getElem?_eq_none (by omega)]

/-- Behind the sort the same slice owns the list in its new order. -/
theorem own_of_swk (C : Codec enc sz) {w w' : World} {base g cap : Nat} {e : TypeId} {cur : Array Value} {xs : List β} {d' : Array (β × Nat)} (hs : d'.size = xs.length) (hbase : base ≤ g) (hb : w.heap[g]? = some (.cells cur e (0, 0))) (h1 : xs.length ≤ cap) (h2 : cap ≤ maxLen)
    (h3 : cur.size = cap * sz) (S : SWK (encT enc) sz w g 0 d' w') : Own w' base e enc sz (.slice (some ⟨g, 0, none⟩) xs.length cap) (d'.toList.map (·.1)) ∧ w.grownBy w' (some g) := by
  obtain ⟨n, os, rfl⟩ := S
  have hlen : (d'.toList.map (·.1)).length = xs.length := by simp [hs]
  unfold sortWorldK putRowK
  rw [flatK_cells C]
  refine ⟨⟨by rw [cellsOf_len C], .inr ⟨g, cap, _, by rw [hlen], hbase, heap_put _ hb, by rw [hlen]; exact h1, h2, by simp [putCells, h3], ?_⟩⟩, grownBy_put _⟩
  have hl := cellsOf_len C (d'.toList.map (·.1))
  rw [← hl]
  exact take_put cur _ (by rw [hl, hlen, h3]; exact Nat.mul_le_mul_right _ h1)
end Go.Proofs.Ythgkgjcnmahacaa
end

section
/- slices.SortStableFunc at a slice of the call's own. -/
set_option linter.unusedSimpArgs false
set_option linter.unusedVariables false
namespace Go.Proofs.Ythgkgjcnmahacaa
open Go.Shelf Go.RowKit Go.Lib Go.Sort
namespace SM
variable {β : Type} [Inhabited β]

def SortPost (w : World) (base : Nat) (enc : β → List Value) (cf : β → β → Int) (v : Value) (xs : List β) (e : Ending) (w' : World) : Prop :=
  e = .returned (.tuple #[]) ∧ ∃ ys, IsStable cf xs ys ∧ Own w' base 90 enc 6 v ys ∧ w.grownBy w' v.ownBlock

set_option maxHeartbeats 4000000 in
set_option maxRecDepth 1000000 in
theorem ins_none (w : World) (g : Nat) (cb : Array Value) :
    Calls Try.prog 113 #[.slice none 0 0, .int .i64 0, .int .i64 0, .func (.func g) #[] cb] w fun e w' => e = .returned (.tuple #[]) ∧ w = w' := by
  go_enter Try.func113, Try.ntmps113
  go_wp2_with fail
  go_loop [8] (fun i => i = .int .i64 1) (fun _ => 0)
  case atStart => rfl
  case round =>
    obtain rfl := hrel
    go_wp2_with fail
    go_end0
    exact ⟨rfl, rfl⟩

set_option maxHeartbeats 4000000 in
set_option maxRecDepth 1000000 in
theorem stable_none (w : World) (g : Nat) (cb : Array Value) :
    Calls Try.prog 88 #[.slice none 0 0, .int .i64 0, .func (.func g) #[] cb] w fun e w' => e = .returned (.tuple #[]) ∧ w = w' := by
  go_enter Try.func88, Try.ntmps88
  go_wp2_with fail
  go_loop [7, 8] (fun a b => a = .int .i64 0 ∧ b = .int .i64 20) (fun _ _ => 0)
  case atStart => exact ⟨rfl, rfl⟩
  case round =>
    obtain ⟨rfl, rfl⟩ := hrel
    go_wp2_with (go_at_call 113; refine (ins_none _ g cb).mono ?_; rintro e w' ⟨rfl, rfl⟩)
    go_loop [6] (fun b => b = .int .i64 20) (fun _ => 0)
    case atStart => rfl
    case round =>
      obtain rfl := hrel
      go_wp2_with fail
      go_end0
      exact ⟨rfl, rfl⟩

set_option maxHeartbeats 4000000 in
set_option maxRecDepth 1000000 in
theorem top_any (enc : β → List Value) (C : Codec enc 6) (cf : β → β → Int) (Cm : Cmp cf) (g : Nat) (cb : Array Value) (w : World) (base : Nat) (v : Value) (xs : List β)
    (eg : ∀ args w, (callFunc g args).run Try.prog w = .ok (.enter g args) w) (hcmp : CmpAny Try.prog g cb enc cf) (hv : Own w base 90 enc 6 v xs) (hsz : xs.length < 1152921504606846976) :
    Calls Try.prog 53 #[v, .func (.func g) #[] cb] w (SortPost w base enc cf v xs) := by
  have HV := Lib.hid hv
  rcases hv.2 with ⟨rfl, hn⟩ | ⟨b, cap, cur, rfl, hb, hh, h1, h2, h3, h4⟩
  · have hx : xs = [] := List.eq_nil_of_length_eq_zero hn
    subst hx
    clear hv
    go_enter Try.func53, Try.ntmps53
    go_wp2_with (go_at_call 88; refine (stable_none _ g cb).mono ?_; rintro e w' ⟨rfl, rfl⟩)
    go_end0
    exact ⟨rfl, [], IsStable.nil, HV.out, ⟨rfl, rfl, rfl, Nat.le_refl _, fun _ _ _ => rfl⟩⟩
  · have hcon := stable_any (k := 6) lays (encT enc) (fun x y => cf x.1 y.1) (tlt cf) Cm.swo (fun p => p.2) (fun x y hxy => by
        unfold ltOf tlt
        by_cases e1 : cf y.1 x.1 < 0
        · simp [e1]
        · have : ¬ y.2 < x.2 := by omega
          simp [e1, this]) g cb b 0 cap xs.zipIdx.toArray w eg (fun W x y => hcmp W x.1 y.1)
        ⟨fun x => C.len x.1, fun x => C.one x.1, holds_of_own C hh h4, (Array.getElem?_eq_some_iff.1 hh).1⟩ (fun t ht => by
          simp at ht
          rw [getElem!_pos _ t (by simpa using ht)]
          simp) (by simpa using hsz)
    rw [show xs.zipIdx.toArray.size = xs.length by simp] at hcon
    have HCON := Lib.hid hcon
    clear hcon hcmp hv
    have HH := Lib.hid hh
    have H3 := Lib.hid h3
    have H2 := Lib.hid h2
    clear hh h4 h3 h2
    go_enter Try.func53, Try.ntmps53
    go_wp2_with fail
    refine HCON.out.mono ?_
    rintro e w1 ⟨rfl, d', S, hp, hs⟩
    have hd : d'.size = xs.length := by rw [hp.1]; simp
    have HF := Lib.hid (own_of_swk C hd hb HH.out h1 H2.out H3.out S)
    have HI := Lib.hid (IsStable.of_sorted Cm hp hs)
    clear S hp hs
    go_wp2_with fail
    go_end0
    exact ⟨rfl, _, HI.out, HF.out.1, HF.out.2⟩
end SM
end Go.Proofs.Ythgkgjcnmahacaa
end

section
/- The comparison of members by their names. -/
set_option linter.unusedSimpArgs false
set_option linter.unusedVariables false
namespace Go.Proofs.Ythgkgjcnmahacaa
open Go.Shelf Go.RowKit Go.Lib Go.Sort

theorem cmpB_self : ∀ a : List UInt8, compareBytes a a = 0
  | [] => rfl
  | x :: a => by
    have h : ¬ x < x := UInt8.lt_irrefl x
    unfold compareBytes
    rw [if_neg h, if_neg h, cmpB_self a]
theorem cmpB_neg : ∀ a b : List UInt8, compareBytes b a = - compareBytes a b
  | [], [] => rfl
  | [], _ :: _ => rfl
  | _ :: _, [] => rfl
  | x :: a, y :: b => by
    have ih := cmpB_neg a b
    unfold compareBytes
    by_cases h1 : x < y
    · have h2 : ¬ y < x := fun h => UInt8.lt_irrefl x (UInt8.lt_trans h1 h)
      simp [h1, h2]
    · by_cases h2 : y < x
      · simp [h1, h2]
      · simp [h1, h2, ih]
theorem cmpB_eq : ∀ a b : List UInt8, compareBytes a b = 0 → a = b
  | [], [], _ => rfl
  | [], _ :: _, h => by simp [compareBytes] at h
  | _ :: _, [], h => by simp [compareBytes] at h
  | x :: a, y :: b, h => by
    unfold compareBytes at h
    by_cases h1 : x < y
    · simp [h1] at h
    · by_cases h2 : y < x
      · simp [h1, h2] at h
      · simp only [if_neg h1, if_neg h2] at h
        rw [cmpB_eq a b h, UInt8.le_antisymm (UInt8.not_lt.1 h2) (UInt8.not_lt.1 h1)]
theorem cmpB_ntrans : ∀ a b c : List UInt8, ¬ compareBytes a b < 0 → ¬ compareBytes b c < 0 → ¬ compareBytes a c < 0
  | [], [], c, _, h2 => h2
  | [], _ :: _, _, h1, _ => by simp [compareBytes] at h1
  | _ :: _, _, [], _, _ => by simp [compareBytes]
  | x :: a, [], z :: c, _, h2 => by simp [compareBytes] at h2
  | x :: a, y :: b, z :: c, h1, h2 => by
    have ih := cmpB_ntrans a b c
    unfold compareBytes at h1 h2 ⊢
    by_cases hxy : x < y
    · simp [hxy] at h1
    · by_cases hyz : y < z
      · simp [hyz] at h2
      · have hxz : ¬ x < z := fun h => by
          have h3 := UInt8.le_trans (UInt8.not_lt.1 hyz) (UInt8.not_lt.1 hxy)
          exact absurd h (UInt8.not_lt.2 h3)
        simp only [if_neg hxy, if_neg hyz, if_neg hxz] at h1 h2 ⊢
        by_cases hzx : z < x
        · simp [hzx]
        · have hyx : ¬ y < x := fun h => hzx (UInt8.lt_of_le_of_lt (UInt8.not_lt.1 hyz) h)
          have hzy : ¬ z < y := fun h => hzx (UInt8.lt_of_lt_of_le h (UInt8.not_lt.1 hxy))
          simp only [if_neg hyx, if_neg hzy, if_neg hzx] at h1 h2 ⊢
          exact ih h1 h2

/-- The order of names. -/
def cmpN (a b : ByteArray) : Int := compareBytes a.data.toList b.data.toList
theorem cmpN_self (a : ByteArray) : cmpN a a = 0 := cmpB_self _
theorem cmpN_neg (a b : ByteArray) : cmpN b a = - cmpN a b := cmpB_neg _ _
theorem cmpN_eq {a b : ByteArray} (h : cmpN a b = 0) : a = b := by
  have := cmpB_eq _ _ h
  obtain ⟨⟨x⟩⟩ := a
  obtain ⟨⟨y⟩⟩ := b
  simp only at this
  rw [this]
def cfM (x y : RM) : Int := cmpN x.name y.name
theorem cmpM : Cmp cfM where
  irrefl x := by unfold cfM; rw [cmpN_self]; decide
  asymm x y h := by unfold cfM at *; rw [cmpN_neg]; omega
  ntrans x y z h1 h2 := cmpB_ntrans _ _ _ h1 h2
/-- Members of a tree by their names. -/
def cfJ {γ : Type} (x y : ByteArray × γ) : Int := cmpN x.1 y.1
theorem cmpJ {γ : Type} : Cmp (cfJ (γ := γ)) where
  irrefl x := by unfold cfJ; rw [cmpN_self]; decide
  asymm x y h := by unfold cfJ at *; rw [cmpN_neg]; omega
  ntrans x y z h1 h2 := cmpB_ntrans _ _ _ h1 h2

set_option maxRecDepth 100000 in
set_option maxHeartbeats 1000000 in
theorem compareString_any (a b : ByteArray) (w : World) :
    Calls Try.prog 89 #[.string a, .string b] w fun e w' => e = .returned (.int .i64 (cmpN a b)) ∧ w' = w := by
  go_enter Try.func89, Try.ntmps89
  go_wp2
  rw [run_callFunc_extern Try.func115 (by kernel_rfl) (by kernel_rfl) (by kernel_rfl) (e := Extern.BytealgCompare.compare) (by kernel_rfl), Lib.run_compareString]
  simp only [Result.andThen]
  rw [Oper.upon_value]
  go_wp2
  go_ret
  exact ⟨rfl, rfl⟩
theorem compare_any (a b : ByteArray) (w : World) :
    Calls Try.prog 55 #[.string a, .string b] w fun e w' => e = .returned (.int .i64 (cmpN a b)) ∧ w' = w := by
  go_enter Try.func55, Try.ntmps55
  go_wp2_with (go_at_call 89; refine (compareString_any _ _ _).mono ?_; rintro e w' ⟨rfl, rfl⟩)
  go_ret
  exact ⟨rfl, rfl⟩
set_option maxRecDepth 100000 in
theorem cmpM_any : SM.CmpAny Try.prog 54 #[] encM cfM := by
  intro W x y
  obtain ⟨n1, k1, i1, s1, pl1, nl1, cl1, pm1, nm1, cm1⟩ := x
  obtain ⟨n2, k2, i2, s2, pl2, nl2, cl2, pm2, nm2, cm2⟩ := y
  simp only [encM, encV, cfM]
  show Calls Try.prog 54 #[.agg #[.string n1, .int .i64 k1, .int .i64 i1, .string s1, .slice pl1 nl1 cl1, .slice pm1 nm1 cm1], .agg #[.string n2, .int .i64 k2, .int .i64 i2, .string s2, .slice pl2 nl2 cl2, .slice pm2 nm2 cm2]] W _
  go_enter Try.func54, Try.ntmps54
  go_wp2_with (go_at_call 55; refine (compare_any _ _ _).mono ?_; rintro e w' ⟨rfl, rfl⟩)
  go_ret
  exact ⟨rfl, 0, _, by rw [alloc_eq_grow, alloc_eq_grow, grow_grow]; rfl⟩
end Go.Proofs.Ythgkgjcnmahacaa
end

section
/- A slice of the call's own: its tail cleared, its head kept; whole elements stored. Plain laws over any program. -/
set_option linter.unusedSimpArgs false
set_option linter.unusedVariables false
namespace Go.Proofs.Ythgkgjcnmahacaa
open Go Go.RowKit

theorem setCells_tail (g m : Nat) (e : TypeId) : ∀ (vs : List Value) (o : Nat) (w : World) (cur : Array Value), m ≤ o → w.heap[g]? = some (.cells cur e (0, 0)) →
    ∃ cur', (w.setCells g o vs).heap[g]? = some (.cells cur' e (0, 0)) ∧ cur'.size = cur.size ∧ cur'.toList.take m = cur.toList.take m ∧ w.grownBy (w.setCells g o vs) (some g)
  | [], o, w, cur, ho, h => ⟨cur, h, rfl, rfl, World.grownBy.refl w _⟩
  | v :: r, o, w, cur, ho, h => by
    obtain ⟨cur', h1, h2, h3, h4⟩ := setCells_tail g m e r (o + 1) (w.setCell ⟨g, o, none⟩ v) (cur.setIfInBounds o v) (by omega) (heap_setCell_same w g o cur e v h)
    refine ⟨cur', h1, by simpa using h2, ?_, ?_⟩
    · rw [h3, Array.toList_setIfInBounds, List.take_set_of_le ho]
    · have hg1 : w.grownBy (w.setCell ⟨g, o, none⟩ v) (some g) := ⟨rfl, rfl, rfl, by simp, fun k _ hk => heap_setCell_other w ⟨g, o, none⟩ k v (fun e => hk (by simp [e]))⟩
      exact hg1.trans h4
theorem zeroCells_mem (z : Array Value) (n : Nat) (h : ∀ u ∈ z.toList, u.oneCell' = true) : ∀ u ∈ (Builtin.zeroCells z n).toList, u.oneCell' = true := by
  intro u hu
  simp only [Builtin.zeroCells, Array.toList_map, Array.toList_range, List.mem_map, List.mem_range] at hu
  obtain ⟨i, hi, rfl⟩ := hu
  have hz : 0 < z.size := by
    rcases Nat.eq_zero_or_pos z.size with h0 | h0
    · rw [h0, Nat.mul_zero] at hi; omega
    · exact h0
  have hlt : i % z.size < z.size := Nat.mod_lt _ hz
  rw [getElem!_pos z (i % z.size) hlt]
  exact h _ (by simp)

section
variable {P : Program} {α : Type} {enc : α → List Value} {sz bytes : Nat} {t e : TypeId}
theorem Own.take {w : World} {base : Nat} {p : Option Addr} {n cap : Nat} {xs : List α} (C : Codec enc sz) (h : Own w base e enc sz (.slice p n cap) xs) (m : Nat) (hm : m ≤ n) : Own w base e enc sz (.slice p m cap) (xs.take m) := by
  obtain ⟨hl, h⟩ := h
  rcases h with ⟨hv, hn⟩ | ⟨g, cap', cur, hv, hg, hh, hnc, hcm, hcs, ht⟩
  · simp only [Value.slice.injEq] at hv
    obtain ⟨rfl, rfl, rfl⟩ := hv
    obtain rfl : m = 0 := by omega
    rw [List.take_zero]
    exact Own.nil w base e
  · simp only [Value.slice.injEq] at hv
    obtain ⟨rfl, rfl, rfl⟩ := hv
    have hlen : (xs.take m).length = m := by rw [List.length_take]; omega
    refine ⟨cellsOf_len C _, .inr ⟨g, cap, cur, by rw [hlen], hg, hh, by omega, hcm, hcs, ?_⟩⟩
    rw [hlen]
    have h1 : cellsOf enc xs = cellsOf enc (xs.take m) ++ cellsOf enc (xs.drop m) := by rw [← cellsOf_append, List.take_append_drop]
    have h2 : cur.toList.take (m * sz) = (cur.toList.take (xs.length * sz)).take (m * sz) := by
      rw [List.take_take, Nat.min_eq_left (Nat.mul_le_mul_right _ hm)]
    rw [h2, ht, h1]
    have h3 : (cellsOf enc (xs.take m)).length = m * sz := by rw [cellsOf_len C, hlen]
    rw [← h3, List.take_left]

/-- 'clear(s[i:])' leaves the head of a slice of the call's own. -/
theorem run_clear_own (S : SlT P t e sz bytes) (hone : ∀ i z, P.info? e = some i → i.zero = some z → ∀ u ∈ z.cells.toList, u.oneCell' = true) (C : Codec enc sz) (w : World) (ty : TypeId) {base : Nat} {p : Option Addr} {n cap m : Nat} {xs : List α}
    (h : Own w base e enc sz (.slice p n cap) xs) (hm : m ≤ n) {v : Value} (hv : v = sliced p m n cap sz) :
    ∃ w', (Builtin.clear_ #[t] ty #[v]).run P w = .ok (.tuple #[]) w' ∧ Own w' base e enc sz (.slice p m cap) (xs.take m) ∧ w.grownBy w' (Value.slice p n cap).ownBlock := by
  have hT := h.take C m hm
  obtain ⟨ht, i, z, hi, hz, hs1, hs2, hzs⟩ := S
  by_cases hmn : m = n
  · subst hmn
    refine ⟨w, ?_, hT, World.grownBy.refl w _⟩
    rw [hv]
    unfold sliced
    rw [Nat.sub_self]
    cases (if cap = m then p else p.map (·.add (m * sz))) <;> simp [Builtin.clear_, run_underlying ht]
  · obtain ⟨hl, h'⟩ := h
    rcases h' with ⟨hv', hn⟩ | ⟨g, cap', cur, hv', hg, hh, hnc, hcm, hcs, htk⟩
    · simp only [Value.slice.injEq] at hv'
      omega
    · simp only [Value.slice.injEq] at hv'
      obtain ⟨rfl, hnx, rfl⟩ := hv'
      have hsl : v = .slice (some ⟨g, m * sz, none⟩) (n - m) (cap - m) := by
        rw [hv]; unfold sliced
        rw [if_neg (by omega)]
        simp [add_eq]
      have hszn : (Builtin.zeroCells z.cells (n - m)).size = (n - m) * sz := by rw [size_zeroCells, hzs]
      have hcell : ∀ j, j < (n - m) * sz → (w.cell? ⟨g, m * sz + j, none⟩).isSome = true := by
        intro j hj
        rw [cell_of_row w g _ cur e (0, 0) hh]
        have h1 : (n - m) * sz + m * sz ≤ cap * sz := by rw [← Nat.add_mul]; exact Nat.mul_le_mul_right _ (by omega)
        rw [Array.getElem?_eq_getElem (by omega)]
        rfl
      have hst := run_storeCells_cells (P := P) g (m * sz) (Builtin.zeroCells z.cells (n - m)).toList 0 w (by intro j hj; rw [Array.length_toList, hszn] at hj; simpa using hcell j hj) (fun j hj => frozen_of_row w g _ cur e hh) (zeroCells_mem z.cells _ (hone i z hi hz))
      rw [Nat.add_zero] at hst
      obtain ⟨cur', h1, h2, h3, h4⟩ := setCells_tail g (m * sz) e (Builtin.zeroCells z.cells (n - m)).toList (m * sz) w cur (Nat.le_refl _) hh
      refine ⟨_, ?_, ?_, h4⟩
      · rw [hsl]
        obtain ⟨k, hk⟩ : ∃ k, n - m = k + 1 := ⟨n - m - 1, by omega⟩
        rw [hk] at hst ⊢
        simp [Builtin.clear_, run_underlying ht, zeroValue, typeInfo, hi, hz, hst]
      · have hlen : (xs.take m).length = m := by rw [List.length_take]; omega
        obtain ⟨hl2, h2'⟩ := hT
        rcases h2' with ⟨hv2, _⟩ | ⟨g2, cap2, cur2, hv2, _, hh2, _, _, _, ht2⟩
        · simp at hv2
        · simp only [Value.slice.injEq, Option.some.injEq, Addr.mk.injEq, and_true, true_and] at hv2
          obtain ⟨rfl, _, rfl⟩ := hv2
          rw [hh] at hh2
          cases hh2
          refine ⟨hl2, .inr ⟨g, cap, cur', by rw [hlen], hg, h1, by omega, hcm, by omega, ?_⟩⟩
          rw [hlen] at ht2 ⊢
          rw [h3]
          exact ht2
theorem wpList_clear_own {ops : Array Oper} {rest : List Oper} {o : Oper} {a : Act} {Q : Exit → Act → World → Prop} (S : SlT P t e sz bytes) (hone : ∀ i z, P.info? e = some i → i.zero = some z → ∀ u ∈ z.cells.toList, u.oneCell' = true) (C : Codec enc sz) (w : World) (hgd : o.guard = none) (s : Operand)
    (ho : o.op = .call { callee := .builtin .clear, args := #[s], argTypes := #[t] }) {base : Nat} {p : Option Addr} {n cap m : Nat} {xs : List α} {v : Value} (hs : a.eval s = v) (hv : v = sliced p m n cap sz) (hown : Own w base e enc sz (.slice p n cap) xs) (hm : m ≤ n)
    (h : ∀ w', Own w' base e enc sz (.slice p m cap) (xs.take m) → w.grownBy w' (Value.slice p n cap).ownBlock → wpList P ops Q rest (a.put o.dst (.tuple #[])) w') : wpList P ops Q (o :: rest) a w :=
  wpList_plain hgd fun K hK => by
    obtain ⟨w', hrun, h2, h3⟩ := run_clear_own S hone C w o.type hown hm hv
    unfold Oper.wp execOp
    simp only [ho, resolve, invoke, builtin, Sem.run_bind, Sem.run_pure, Result.andThen_ok, List.map_toArray, List.map_cons, List.map_nil, hs, hrun]
    exact hK _ _ (h w' h2 h3)
theorem run_slice_low (S : SlT P t e sz bytes) (p : Option Addr) (n cap m : Nat) (hm : m ≤ n) (W : World) : (Instr.sliceAt t (.slice p n cap) (some (.int .i64 m)) none none).run P W = .ok (sliced p m n cap sz) W := by
  obtain ⟨ht, i, z, hi, hz, hs1, hs2, hzs⟩ := S
  have he : P.elem t = e := by simp [Program.elem, ht]
  have ht' : P.underlying t = some (.slice (P.elem t)) := by rw [he]; exact ht
  rw [run_sliceAt_slice _ _ _ _ _ _ ht', run_slice_l W t p n cap ht' .i64 m (by omega) (by omega), he]
  simp [sizeOf, typeInfo, hi, hs1, Result.andThen]
theorem run_slice_high (S : SlT P t e sz bytes) (p : Option Addr) (n cap m : Nat) (hm : m ≤ cap) (W : World) : (Instr.sliceAt t (.slice p n cap) none (some (.int .i64 m)) none).run P W = .ok (.slice p m cap) W := by
  obtain ⟨ht, i, z, hi, hz, hs1, hs2, hzs⟩ := S
  have he : P.elem t = e := by simp [Program.elem, ht]
  have ht' : P.underlying t = some (.slice (P.elem t)) := by rw [he]; exact ht
  rw [run_sliceAt_slice _ _ _ _ _ _ ht', run_slice_h W t p n cap ht' .i64 m (by omega) (by omega), he]
  have hp : p.map (fun a => a.add 0) = p := by cases p <;> simp [Addr.add]
  have hsl : sliced p 0 m cap sz = .slice p m cap := by unfold sliced; simp [hp]
  simp [sizeOf, typeInfo, hi, hs1, Result.andThen, hsl]
end
end Go.Proofs.Ythgkgjcnmahacaa
end

section
/- tree.Without, walked: the library's DeleteFunc at members. -/
set_option linter.unusedSimpArgs false
set_option linter.unusedVariables false
namespace Go.Proofs.Ythgkgjcnmahacaa
open Go.RowKit Go.OpenShut

set_option maxRecDepth 100000 in
theorem isName_any (x : RM) (g : Nat) (name : ByteArray) (w : World) (hg : w.cell? ⟨g, 0, none⟩ = some (.string name)) :
    Calls Try.prog 80 #[x.val, .pointer (some ⟨g, 0, none⟩)] w fun e w' => e = .returned (.bool (decide (x.name = name))) ∧ Below w.heap.size w w' := by
  obtain ⟨nm, k, n, s, pl, nl, cl, pm, nm', cm⟩ := x
  dsimp only [RM.val]
  have hlt := (cell_some hg).2
  have hne := World.new_ne w ⟨g, 0, none⟩ hg
  have hB : Below w.heap.size w (w.alloc (.cells #[.string nm, .int .i64 k, .int .i64 n, .string s, .slice pl nl cl, .slice pm nm' cm] 90)) := (Below.refl _ _).alloc (Nat.le_refl _) _
  have hc := bcs hB hlt hg
  have hq := str_beq nm name
  have HQ := Lib.hid hq
  clear hq
  go_enter Try.func80, Try.ntmps80
  go_wp2_with fail
  go_ret
  exact ⟨by rw [← HQ.out]; rfl, hB⟩

/-- The function value that asks for a name. -/
abbrev isNameV (g : Nat) : Value := .func (.func 80) #[] #[.pointer (some ⟨g, 0, none⟩)]
def nameB (name : ByteArray) (x : RM) : Bool := decide (x.name = name)

set_option maxRecDepth 100000 in
set_option maxHeartbeats 1000000 in
theorem indexFunc_any (w : World) (p : Option Addr) (n c : Nat) (rms : List RM) (hv : Rd w w.heap.size encM 6 (.slice p n c) rms) (g : Nat) (name : ByteArray) (hg : w.cell? ⟨g, 0, none⟩ = some (.string name)) (hlen : rms.length ≤ 1466015503658) :
    Calls Try.prog 106 #[.slice p n c, isNameV g] w fun e w' => e = .returned (.int .i64 (placeI (rms.findIdx? (nameB name)))) ∧ Below w.heap.size w w' := by
  have hn := rd_nlen hv
  subst hn
  have HV := Lib.hid hv
  have hgl := (cell_some hg).2
  clear hv
  go_enter Try.func106, Try.ntmps106
  go_wp2_with fail
  go_loopw [8] (fun i wr => ∃ k : Nat, k ≤ rms.length ∧ i = .int .i64 k ∧ Hid (∀ (j : Nat) y, j < k → rms[j]? = some y → nameB name y = false) ∧ Below w.heap.size w wr) (fun i _ => rms.length - (intOf i).toNat)
  case atStart => exact ⟨0, Nat.zero_le _, rfl, fun j y h => by omega, Below.refl _ _⟩
  case round =>
    obtain ⟨k, hk, rfl, hno, hbr⟩ := hrel
    by_cases hlt : k < rms.length
    · obtain ⟨x, hx⟩ : ∃ x, rms[k]? = some x := ⟨_, List.getElem?_eq_getElem hlt⟩
      obtain ⟨b1, o1, rfl, hb1, hc1⟩ := rd_at' (HV.out.below hbr (Nat.le_refl _)) hx
      have f0 := hc1 0 _ rfl
      have f1 := hc1 1 _ rfl
      have f2 := hc1 2 _ rfl
      have f3 := hc1 3 _ rfl
      have f4 := hc1 4 _ rfl
      have f5 := hc1 5 _ rfl
      rw [Nat.add_zero] at f0
      have HX := Lib.hid hx
      have hz := hbr.size
      have HBR := Lib.hid hbr
      have hgr := Lib.hid (bcs hbr hgl hg)
      cases hnb : nameB name x with
      | true =>
        have HF := Lib.hid (find_at HX.out hnb hno.out)
        have HNB : Hid (decide (x.name = name) = true) := hnb
        clear hx hc1 hbr hnb hno hg
        go_wp2_with (go_at_call 80; refine (isName_any x g name _ hgr.out).mono ?_; rintro e w1 ⟨rfl, hb1'⟩; rw [HNB.out])
        go_ret
        exact ⟨ret_int (by rw [HF.out]; rfl), HBR.out.trans (hb1'.mono HBR.out.size)⟩
      | false =>
        have HNB : Hid (decide (x.name = name) = false) := hnb
        have HNX : Hid (∀ (j : Nat) y, j < k + 1 → rms[j]? = some y → nameB name y = false) := by
          intro j y hj hy
          by_cases e : j = k
          · subst e
            rw [hx] at hy
            cases hy
            exact hnb
          · exact hno.out j y (by omega) hy
        clear hx hc1 hbr hnb hno hg
        go_wp2_with (go_at_call 80; refine (isName_any x g name _ hgr.out).mono ?_; rintro e w1 ⟨rfl, hb1'⟩; rw [HNB.out])
        go_roundw
        case rel => exact ⟨k + 1, by omega, by go_num, HNX, HBR.out.trans (hb1'.mono HBR.out.size)⟩
        case measure => simp [intOf]; omega
    · obtain rfl : k = rms.length := by omega
      have HF := Lib.hid (find_not (p := nameB name) (l := rms) (fun j y hy => hno.out j y (List.getElem?_eq_some_iff.1 hy).1 hy))
      go_wp2_with fail
      go_ret
      exact ⟨ret_int (by rw [HF.out]; rfl), hbr⟩

theorem Own.storedM {w : World} {base : Nat} {g n cap : Nat} {xs : List RM} (h : Own w base 90 encM 6 (.slice (some ⟨g, 0, none⟩) n cap) xs) {k : Nat} {x : RM} (hx : xs[k]? = some x) (nm : ByteArray) (q : RV) :
    Own ((((((w.setCell ⟨g, k * 6, none⟩ (.string nm)).setCell ⟨g, k * 6 + 1, none⟩ (.int .i64 q.k)).setCell ⟨g, k * 6 + 2, none⟩ (.int .i64 q.n)).setCell ⟨g, k * 6 + 3, none⟩ (.string q.s)).setCell ⟨g, k * 6 + 4, none⟩ (.slice q.pl q.nl q.cl)).setCell ⟨g, k * 6 + 5, none⟩ (.slice q.pm q.nm q.cm)) base 90 encM 6 (.slice (some ⟨g, 0, none⟩) n cap) (xs.set k ⟨nm, q⟩) ∧
    w.grownBy ((((((w.setCell ⟨g, k * 6, none⟩ (.string nm)).setCell ⟨g, k * 6 + 1, none⟩ (.int .i64 q.k)).setCell ⟨g, k * 6 + 2, none⟩ (.int .i64 q.n)).setCell ⟨g, k * 6 + 3, none⟩ (.string q.s)).setCell ⟨g, k * 6 + 4, none⟩ (.slice q.pl q.nl q.cl)).setCell ⟨g, k * 6 + 5, none⟩ (.slice q.pm q.nm q.cm)) (some g) := by
  have hk := (List.getElem?_eq_some_iff.1 hx).1
  have s1 := Own.storedAt codecM h (j := 0) (y := ⟨nm, x.v⟩) (u := .string nm) hx (by decide) rfl
  have s2 := Own.storedV s1.1 (k := k) (x := ⟨nm, x.v⟩) (by simp [List.getElem?_set, hk]) q
  simp only [List.set_set] at s2
  exact ⟨s2.1, s1.2.trans s2.2⟩
def MAt (W : World) (g : Nat) (x : RM) : Prop := W.heap[g]? = some (.cells #[.string x.name, .int .i64 x.v.k, .int .i64 x.v.n, .string x.v.s, .slice x.v.pl x.v.nl x.v.cl, .slice x.v.pm x.v.nm x.v.cm] 90 (0, 0))
theorem MAt.cell {W : World} {g : Nat} {r : RM} (h : MAt W g r) (j : Nat) {u : Value} (hu : (encM r)[j]? = some u) : W.cell? ⟨g, j, none⟩ = some u := by
  unfold MAt at h
  rw [cell_of_row W g j _ _ _ h, ← Array.getElem?_toList]
  exact hu
theorem MAt.under {W W' : World} {g B : Nat} {r : RM} (h : MAt W g r) (hb : Below B W W') (hg : g < B) : MAt W' g r := (hb.block g hg).trans h
theorem oneM : ∀ i z, Try.prog.info? 90 = some i → i.zero = some z → ∀ u ∈ z.cells.toList, u.oneCell' = true := by
  intro i z hi hz
  have h : (Try.prog.info? 90).map (fun i => (i.zero, i.size, i.bytes)) = some (some (.agg #[.string ByteArray.empty, .int .i64 0, .int .i64 0, .string ByteArray.empty, .slice none 0 0, .slice none 0 0]), 6, 96) := by kernel_rfl
  rw [hi] at h
  simp only [Option.map_some, Option.some.injEq, Prod.mk.injEq] at h
  rw [hz] at h
  simp only [Option.some.injEq] at h
  rw [h.1]
  intro u hu
  simp [Value.cells] at hu
  rcases hu with rfl | rfl | rfl | rfl | rfl | rfl <;> rfl

structure DelRel (rms : List RM) (name : ByteArray) (a b : Nat) (cur : List RM) : Prop where
  lt : a < b
  len : cur.length = rms.length
  head : cur.take a = (rms.take b).filter (fun x => !nameB name x)
  tail : cur.drop b = rms.drop b
theorem DelRel.start {rms : List RM} {name : ByteArray} {i : Nat} (h : rms.findIdx? (nameB name) = some i) : DelRel rms name i (i + 1) rms := by
  rw [List.findIdx?_eq_some_iff_getElem] at h
  obtain ⟨h1, h2, h3⟩ := h
  refine ⟨by omega, rfl, ?_, rfl⟩
  rw [List.take_add_one, List.getElem?_eq_getElem h1, List.filter_append]
  have e1 : (rms.take i).filter (fun x => !nameB name x) = rms.take i := by
    rw [List.filter_eq_self]
    intro x hx
    obtain ⟨j, hj⟩ := List.getElem?_of_mem hx
    rw [List.getElem?_take] at hj
    split at hj
    · have := h3 j (by assumption)
      rw [List.getElem?_eq_getElem (by omega)] at hj
      cases hj
      simpa using this
    · cases hj
  rw [e1]
  simp [h2]
theorem DelRel.at {rms cur : List RM} {name : ByteArray} {a b : Nat} (h : DelRel rms name a b cur) {x : RM} (hx : rms[b]? = some x) : cur[b]? = some x := by
  have h1 : (cur.drop b)[0]? = (rms.drop b)[0]? := by rw [h.tail]
  simpa [List.getElem?_drop, hx] using h1
theorem DelRel.skip {rms cur : List RM} {name : ByteArray} {a b : Nat} (h : DelRel rms name a b cur) {x : RM} (hx : rms[b]? = some x) (hn : nameB name x = true) : DelRel rms name a (b + 1) cur := by
  refine ⟨by have := h.lt; omega, h.len, ?_, ?_⟩
  · rw [List.take_add_one, hx, List.filter_append, ← h.head]
    simp [hn]
  · rw [← List.drop_drop (i := 1) (j := b), ← List.drop_drop (i := 1) (j := b), h.tail]
theorem DelRel.keep {rms cur : List RM} {name : ByteArray} {a b : Nat} (h : DelRel rms name a b cur) {x : RM} (hx : rms[b]? = some x) (hn : nameB name x = false) : DelRel rms name (a + 1) (b + 1) (cur.set a x) := by
  have hl := h.lt
  have hbl := (List.getElem?_eq_some_iff.1 hx).1
  refine ⟨by omega, by rw [List.length_set, h.len], ?_, ?_⟩
  · rw [List.take_add_one, List.take_set_of_le (Nat.le_refl _), List.getElem?_set_self (by have := h.len; omega), List.take_add_one, hx, List.filter_append, ← h.head]
    simp [hn]
  · rw [List.drop_set_of_lt (by omega), ← List.drop_drop (i := 1) (j := b), ← List.drop_drop (i := 1) (j := b), h.tail]
theorem DelRel.done {rms cur : List RM} {name : ByteArray} {a : Nat} (h : DelRel rms name a rms.length cur) : cur.take a = rms.filter (fun x => !nameB name x) := by
  have := h.head
  rwa [List.take_length] at this

set_option maxRecDepth 100000 in
set_option maxHeartbeats 2000000 in
theorem deleteFunc_any (w : World) (base : Nat) (p : Option Addr) (n c : Nat) (rms : List RM) (hv : Own w base 90 encM 6 (.slice p n c) rms) (hb : base ≤ w.heap.size) (g : Nat) (name : ByteArray) (hg : w.cell? ⟨g, 0, none⟩ = some (.string name)) (hgb : g < base) (hlen : rms.length ≤ 1466015503658) :
    Calls Try.prog 79 #[.slice p n c, isNameV g] w fun e w' => ∃ m, e = .returned (.slice p m c) ∧ Own w' base 90 encM 6 (.slice p m c) (rms.filter (fun x => !nameB name x)) ∧ Below base w w' := by
  have hn := rd_nlen (hv.rd codecM)
  subst hn
  have HI := Lib.hid (indexFunc_any w p rms.length c rms (hv.rd codecM) g name hg hlen)
  have HV := Lib.hid hv
  have HG := Lib.hid hg
  clear hv hg
  cases hf : rms.findIdx? (nameB name) with
  | none =>
    have HF := Lib.hid hf
    clear hf
    go_enter Try.func79, Try.ntmps79
    go_wp2_with (go_at_call 106; refine HI.out.mono ?_; rintro e w1 ⟨rfl, hb1⟩; rw [HF.out]; (have hn1 : placeI (none : Option Nat) = -1 := rfl); rw [hn1]; go_frame)
    go_ret
    refine ⟨rms.length, rfl, ?_, hb1.mono hb⟩
    have e1 : rms.filter (fun x => !nameB name x) = rms := by
      rw [List.filter_eq_self]
      intro x hx
      have := List.findIdx?_eq_none_iff.1 HF.out x hx
      simpa using this
    rw [e1]
    exact HV.out.below hb1 (Nat.le_refl _)
  | some i =>
    have HF := Lib.hid hf
    have hst := DelRel.start hf
    have hi := hst.lt
    have hil : i < rms.length := by rw [List.findIdx?_eq_some_iff_getElem] at hf; exact hf.1
    have HST := Lib.hid hst
    have hne : ((i : Int) == -1) = false := by rw [beq_eq_false_iff_ne]; omega
    clear hf hst
    go_enter Try.func79, Try.ntmps79
    go_wp2_with (go_at_call 106; refine HI.out.mono ?_; rintro e w1 ⟨rfl, hb1⟩; rw [HF.out]; (have hn1 : placeI (some i) = (i : Int) := rfl); rw [hn1]; clear hn1; go_frame)
    have hz1 : w.heap.size ≤ w1.heap.size := hb1.size
    have HB1 : Hid (Below base w w1) := hb1.mono hb
    have hO1 : Hid (Own w1 base 90 encM 6 (.slice p rms.length c) rms) := HV.out.below hb1 (Nat.le_refl _)
    clear hb1
    go_loopw [5, 6] (fun x y wr => ∃ (a b : Nat) (cur : List RM), x = .int .i64 a ∧ y = .int .i64 b ∧ b ≤ rms.length ∧ Hid (DelRel rms name a b cur) ∧ Hid (Own wr base 90 encM 6 (.slice p rms.length c) cur) ∧ Below base w wr) (fun _ y _ => rms.length - (intOf y).toNat)
    case atStart => exact ⟨i, i + 1, rms, rfl, by go_num, by omega, HST, hO1, HB1.out⟩
    case round =>
      obtain ⟨a, b, cur, rfl, rfl, hbn, HD, HO, hbr⟩ := hrel
      have hab : a < b := HD.out.lt
      have hzr := hbr.size
      by_cases hlt : b < rms.length
      · obtain ⟨x, hx⟩ : ∃ x, rms[b]? = some x := ⟨_, List.getElem?_eq_getElem hlt⟩
        have hcx := HD.out.at hx
        obtain ⟨xa, hxa⟩ : ∃ xa, cur[a]? = some xa := ⟨_, List.getElem?_eq_getElem (by rw [HD.out.len]; omega)⟩
        obtain ⟨gg, hpg, hnn, hga, hgb', hcell, hfr⟩ := Own.at codecM HO.out hcx
        subst hpg
        have f0 := hcell 0 _ rfl
        have f1 := hcell 1 _ rfl
        have f2 := hcell 2 _ rfl
        have f3 := hcell 3 _ rfl
        have f4 := hcell 4 _ rfl
        have f5 := hcell 5 _ rfl
        rw [Nat.add_zero] at f0
        have hgr := bcs hbr hgb HG.out
        have HX := Lib.hid hx
        have HXA := Lib.hid hxa
        have HBR := Lib.hid hbr
        have hb0 : (0 : Int) ≤ (b : Int) := Int.natCast_nonneg _
        have hb1 : (b : Int) < (rms.length : Int) := by omega
        have ha0 : (0 : Int) ≤ (a : Int) := Int.natCast_nonneg _
        have ha1 : (a : Int) < (rms.length : Int) := by omega
        have hM0 : MAt (wr.alloc (.cells #[.string x.name, .int .i64 x.v.k, .int .i64 x.v.n, .string x.v.s, .slice x.v.pl x.v.nl x.v.cl, .slice x.v.pm x.v.nm x.v.cm] 90)) wr.heap.size x := heap_alloc_at rfl
        have HM0 := Lib.hid hM0
        have hA := HBR.out.alloc (Nat.le_trans hb hzr) (.cells #[.string x.name, .int .i64 x.v.k, .int .i64 x.v.n, .string x.v.s, .slice x.v.pl x.v.nl x.v.cl, .slice x.v.pm x.v.nm x.v.cm] 90)
        have HA := Lib.hid hA
        have hgr2 := bcs hA hgb HG.out
        have HGR := Lib.hid hgr2
        clear hx hxa hcx hcell hfr hnn hbr hgr hgr2 hA hM0
        cases hnb : nameB name x with
        | true =>
          have HNB : Hid (decide (x.name = name) = true) := hnb
          have HN := Lib.hid (HD.out.skip HX.out hnb)
          clear hnb
          go_wp2_with (go_at_call 80; refine (isName_any x g name _ HGR.out).mono ?_; rintro e w2 ⟨rfl, hb2⟩; rw [HNB.out])
          go_roundw
          case rel => exact ⟨a, b + 1, cur, rfl, by go_num, by omega, HN, (HO.out.alloc _).below hb2 (Nat.le_refl _), HA.out.trans (hb2.mono (Nat.le_trans hb HA.out.size))⟩
          case measure => simp [intOf]; omega
        | false =>
          have HNB : Hid (decide (x.name = name) = false) := hnb
          have HN := Lib.hid (HD.out.keep HX.out hnb)
          clear hnb
          go_upto_region 9 with (go_at_call 80; refine (isName_any x g name _ HGR.out).mono ?_; rintro e w2 ⟨rfl, hb2⟩; rw [HNB.out])
          have hM2 := HM0.out.under hb2 (by simp)
          have v0 := hM2.cell 0 rfl
          have v1 := hM2.cell 1 rfl
          have v2 := hM2.cell 2 rfl
          have v3 := hM2.cell 3 rfl
          have v4 := hM2.cell 4 rfl
          have v5 := hM2.cell 5 rfl
          have hO2 := (HO.out.alloc (.cells #[.string x.name, .int .i64 x.v.k, .int .i64 x.v.n, .string x.v.s, .slice x.v.pl x.v.nl x.v.cl, .slice x.v.pm x.v.nm x.v.cm] 90)).below hb2 (Nat.le_refl _)
          obtain ⟨g2, hpg2, hnn2, hga2, hgb2, hcell2, hfr2⟩ := Own.at codecM hO2 HXA.out
          simp only [Option.some.injEq, Addr.mk.injEq, and_true] at hpg2
          subst hpg2
          have t0 := hcell2 0 _ rfl
          have t1 := hcell2 1 _ rfl
          have t2 := hcell2 2 _ rfl
          have t3 := hcell2 3 _ rfl
          have t4 := hcell2 4 _ rfl
          have t5 := hcell2 5 _ rfl
          rw [Nat.add_zero] at t0
          have s0 := hfr2 (a * 6)
          have s1 := hfr2 (a * 6 + 1)
          have s2 := hfr2 (a * 6 + 2)
          have s3 := hfr2 (a * 6 + 3)
          have s4 := hfr2 (a * 6 + 4)
          have s5 := hfr2 (a * 6 + 5)
          have HST2 := Lib.hid (Own.storedM hO2 HXA.out x.name x.v)
          have HB2 : Hid (Below base w w2) := HA.out.trans (hb2.mono (Nat.le_trans hb HA.out.size))
          have hz2 : w.heap.size ≤ w2.heap.size := HB2.out.size
          clear hcell2 hfr2 hnn2 hb2 hM2 hO2 f0 f1 f2 f3 f4 f5
          go_wp2_with fail
          go_roundw
          case rel => exact ⟨a + 1, b + 1, _, by go_num, by go_num, by omega, HN, HST2.out.1, HB2.out.grown HST2.out.2 (by omega) (fun j e => by cases e; exact hga)⟩
          case measure => simp [intOf]; omega
      · obtain rfl : b = rms.length := by omega
        have hal : a ≤ rms.length := by omega
        have hsl := fun W => run_slice_low (P := Try.prog) slM p rms.length c a hal W
        have hcap : rms.length ≤ c := by
          obtain ⟨_, _, e, h1, _⟩ := HO.out.rd codecM
          simp only [Value.slice.injEq] at e
          have := HD.out.len
          omega
        have hsh := fun W => run_slice_high (P := Try.prog) slM p rms.length c a (by omega) W
        have HBR := Lib.hid hbr
        have HDD := Lib.hid HD.out.done
        clear hbr HD
        obtain ⟨w2, hrun, ho2, hg2⟩ := run_clear_own (P := Try.prog) slM oneM codecM wr 0 HO.out hal (v := .slice (p.map (fun x => x.add (a * 6))) (rms.length - a) (c - a)) (by unfold sliced; rw [if_neg (by omega)])
        have HO2 := Lib.hid ho2
        have HG2 := Lib.hid hg2
        clear ho2 hg2
        go_wp2_with fail
        go_ret
        exact ⟨a, rfl, by rw [← HDD.out]; exact HO2.out, HBR.out.grown HG2.out (by omega) (fun j e => (HO.out.lt j e).1)⟩
end Go.Proofs.Ythgkgjcnmahacaa
end

section
/- Where an object of an id stands, walked: the library's BinarySearchFunc at objects. -/
set_option linter.unusedSimpArgs false
set_option linter.unusedVariables false
namespace Go.Proofs.Ythgkgjcnmahacaa
open Go.RowKit Go.OpenShut

/-- How many objects of lesser ids there are; whether the next one is of this id. -/
def lowN (os : List (ByteArray × JV)) (id : ByteArray) : Nat := (os.takeWhile (fun p => decide (cmpN p.1 id < 0))).length
def isAt (os : List (ByteArray × JV)) (id : ByteArray) : Bool := match os[lowN os id]? with
  | some p => decide (p.1 = id)
  | none => false
/-- Objects rise by their ids. -/
def Rising (os : List (ByteArray × JV)) : Prop := ∀ (i j : Nat) p q, i < j → os[i]? = some p → os[j]? = some q → cmpN p.1 q.1 < 0
theorem lowN_of : ∀ {os : List (ByteArray × JV)} {id : ByteArray} {a : Nat}, a ≤ os.length → (∀ k x, k < a → os[k]? = some x → cmpN x.1 id < 0) → (∀ k x, a ≤ k → os[k]? = some x → ¬ cmpN x.1 id < 0) → lowN os id = a
  | [], id, a, h, _, _ => by simp [lowN]; simp at h; omega
  | p :: os, id, 0, h, h1, h2 => by
    have := h2 0 p (Nat.le_refl _) rfl
    simp [lowN, List.takeWhile_cons, this]
  | p :: os, id, a + 1, h, h1, h2 => by
    have h0 := h1 0 p (by omega) rfl
    have ih := lowN_of (os := os) (id := id) (a := a) (by simpa using h) (fun k x hk hx => h1 (k + 1) x (by omega) (by simpa using hx)) (fun k x hk hx => h2 (k + 1) x (by omega) (by simpa using hx))
    unfold lowN at ih ⊢
    rw [List.takeWhile_cons, if_pos (by simpa using h0)]
    simp [ih]
theorem cmpN_lt_trans {a b c : ByteArray} (h1 : cmpN a b < 0) (h2 : ¬ cmpN c b < 0) : cmpN a c < 0 := by
  by_cases h : cmpN a c < 0
  · exact h
  · exact absurd h1 (cmpB_ntrans _ _ _ h h2)
theorem Rising.low {os : List (ByteArray × JV)} (hr : Rising os) {id : ByteArray} {h : Nat} {x : ByteArray × JV} (hx : os[h]? = some x) (hc : cmpN x.1 id < 0) : ∀ k y, k < h + 1 → os[k]? = some y → cmpN y.1 id < 0 := by
  intro k y hk hy
  by_cases e : k = h
  · subst e
    rw [hx] at hy
    cases hy
    exact hc
  · have := hr k h y x (by omega) hy hx
    by_cases g : cmpN y.1 id < 0
    · exact g
    · have h3 := cmpN_neg y.1 x.1
      have : ¬ cmpN y.1 x.1 < 0 := cmpB_ntrans _ _ _ g (by have h4 := cmpN_neg x.1 id; show ¬ cmpN id x.1 < 0; omega)
      omega
theorem Rising.high {os : List (ByteArray × JV)} (hr : Rising os) {id : ByteArray} {h : Nat} {x : ByteArray × JV} (hx : os[h]? = some x) (hc : ¬ cmpN x.1 id < 0) : ∀ k y, h ≤ k → os[k]? = some y → ¬ cmpN y.1 id < 0 := by
  intro k y hk hy
  by_cases e : k = h
  · subst e
    rw [hx] at hy
    cases hy
    exact hc
  · have h1 := hr h k x y (by omega) hx hy
    have h2 := cmpN_neg x.1 y.1
    exact cmpB_ntrans _ _ _ (by show ¬ cmpN y.1 x.1 < 0; omega) hc

def Lows (os : List (ByteArray × JV)) (id : ByteArray) (a : Nat) : Prop := ∀ k x, k < a → os[k]? = some x → cmpN x.1 id < 0
def Highs (os : List (ByteArray × JV)) (id : ByteArray) (b : Nat) : Prop := ∀ k x, b ≤ k → os[k]? = some x → ¬ cmpN x.1 id < 0
abbrev placeF : Value := .func (.func 96) #[] #[]
set_option maxRecDepth 100000 in
theorem place1_any (x : RM) (id : ByteArray) (w : World) :
    Calls Try.prog 96 #[x.val, .string id] w fun e w' => e = .returned (.int .i64 (cmpN x.name id)) ∧ Below w.heap.size w w' := by
  obtain ⟨nm, k, n, s, pl, nl, cl, pm, nm', cm⟩ := x
  dsimp only [RM.val]
  have hB : Below w.heap.size w (w.alloc (.cells #[.string nm, .int .i64 k, .int .i64 n, .string s, .slice pl nl cl, .slice pm nm' cm] 46)) := (Below.refl _ _).alloc (Nat.le_refl _) _
  go_enter Try.func96, Try.ntmps96
  go_wp2_with (go_at_call 55; refine (compare_any _ _ _).mono ?_; rintro e w' ⟨rfl, rfl⟩)
  go_ret
  exact ⟨rfl, hB⟩

set_option maxRecDepth 100000 in
set_option maxHeartbeats 2000000 in
theorem binarySearch_any (w : World) (p : Option Addr) (n c : Nat) (os : List (ByteArray × JV)) (id : ByteArray) (hv : ObjsOf w w.heap.size os (.slice p n c)) (hr : Rising os) (hlen : os.length ≤ 1466015503658) :
    Calls Try.prog 95 #[.slice p n c, .string id, placeF] w fun e w' => e = .returned (.tuple #[.int .i64 (lowN os id : Nat), .bool (isAt os id)]) ∧ Below w.heap.size w w' := by
  obtain ⟨rms, hv, hms⟩ := hv
  have hn := rd_nlen hv
  have hlm := hms.len
  have HV := Lib.hid hv
  have HR := Lib.hid hr
  have HN : Hid (os.length = n ∧ rms.length = n) := ⟨by omega, by omega⟩
  have HM := Lib.hid hms.name
  have hn1 : n ≤ 1466015503658 := by omega
  clear hv hr hn hlm hms hlen
  go_enter Try.func95, Try.ntmps95
  go_wp2_with fail
  go_loopw [9, 10] (fun i j wr => ∃ a b : Nat, a ≤ b ∧ b ≤ n ∧ i = .int .i64 a ∧ j = .int .i64 b ∧ Lows os id a ∧ Highs os id b ∧ Below w.heap.size w wr) (fun i j _ => (intOf j).toNat - (intOf i).toNat)
  case atStart => exact ⟨0, n, Nat.zero_le _, Nat.le_refl _, rfl, rfl, fun k x h => by omega, fun k x h1 h2 => by have := (List.getElem?_eq_some_iff.1 h2).1; have := HN.out; omega, Below.refl _ _⟩
  case round =>
    obtain ⟨a, b, hab, hbn, rfl, rfl, hlo, hhi, hbr⟩ := hrel
    by_cases hlt : a < b
    · obtain ⟨h, hh⟩ : ∃ h, (a + b) / 2 = h := ⟨_, rfl⟩
      have h1 : a ≤ h ∧ h < b := by omega
      have eh : ((a : Int) + (b : Int)) / 2 = (h : Int) := by omega
      have h0 : (0 : Int) ≤ (h : Int) := Int.natCast_nonneg _
      have h2 : (h : Int) < (n : Int) := by omega
      obtain ⟨y, hy⟩ : ∃ x, os[h]? = some x := ⟨_, List.getElem?_eq_getElem (by have := HN.out; omega)⟩
      obtain ⟨x, hx⟩ : ∃ x, rms[h]? = some x := ⟨_, List.getElem?_eq_getElem (by have := HN.out; omega)⟩
      have hyn := HM.out h y x hy hx
      obtain ⟨b1, o1, rfl, hb1, hc1⟩ := rd_at' (HV.out.below hbr (Nat.le_refl _)) hx
      have f0 := hc1 0 _ rfl
      have f1 := hc1 1 _ rfl
      have f2 := hc1 2 _ rfl
      have f3 := hc1 3 _ rfl
      have f4 := hc1 4 _ rfl
      have f5 := hc1 5 _ rfl
      rw [Nat.add_zero] at f0
      have HBR := Lib.hid hbr
      clear hx hc1 hbr hh
      by_cases hc : cmpN y.1 id < 0
      · have HL : Lows os id (h + 1) := HR.out.low hy hc
        have HC : Hid (cmpN x.name id < 0) := by rw [← hyn]; exact hc
        clear hy hc hyn hlo
        go_wp2_with (go_at_call 96; refine (place1_any x id _).mono ?_; rintro e w1 ⟨rfl, hb1'⟩; have hcc := HC.out)
        go_roundw
        case rel => exact ⟨h + 1, b, by omega, hbn, by go_num, rfl, HL, hhi, HBR.out.trans (hb1'.mono HBR.out.size)⟩
        case measure => simp [intOf]; omega
      · have HL : Highs os id h := HR.out.high hy hc
        have HC : Hid (¬ cmpN x.name id < 0) := by rw [← hyn]; exact hc
        clear hy hc hyn hhi
        go_wp2_with (go_at_call 96; refine (place1_any x id _).mono ?_; rintro e w1 ⟨rfl, hb1'⟩; have hcc := HC.out)
        go_roundw
        case rel => exact ⟨a, h, by omega, by omega, rfl, rfl, hlo, HL, HBR.out.trans (hb1'.mono HBR.out.size)⟩
        case measure => simp [intOf]; omega
    · obtain rfl : a = b := by omega
      have hd0 : decide ((a : Int) < (a : Int)) = false := by simp
      have hd1 : ¬ ((a : Int) < (a : Int)) := by omega
      clear hlt hab
      have HLOW := Lib.hid (lowN_of (by have := HN.out; omega) hlo hhi)
      clear hlo hhi
      by_cases hlt2 : a < n
      · obtain ⟨y, hy⟩ : ∃ x, os[a]? = some x := ⟨_, List.getElem?_eq_getElem (by have := HN.out; omega)⟩
        obtain ⟨x, hx⟩ : ∃ x, rms[a]? = some x := ⟨_, List.getElem?_eq_getElem (by have := HN.out; omega)⟩
        have hyn := HM.out a y x hy hx
        obtain ⟨b1, o1, rfl, hb1, hc1⟩ := rd_at' (HV.out.below hbr (Nat.le_refl _)) hx
        have f0 := hc1 0 _ rfl
        have f1 := hc1 1 _ rfl
        have f2 := hc1 2 _ rfl
        have f3 := hc1 3 _ rfl
        have f4 := hc1 4 _ rfl
        have f5 := hc1 5 _ rfl
        rw [Nat.add_zero] at f0
        have HIS : Hid (isAt os id = decide (x.name = id)) := by unfold Hid isAt; rw [HLOW.out, hy]; show decide (y.1 = id) = _; rw [hyn]
        have HBR := Lib.hid hbr
        have ha0 : (0 : Int) ≤ (a : Int) := Int.natCast_nonneg _
        have ha1 : (a : Int) < (n : Int) := by omega
        have hd : decide ((a : Int) < (n : Int)) = true := by simpa using ha1
        have HEQ : Hid ((cmpN x.name id == 0) = decide (x.name = id)) := by
          unfold Hid
          rw [Bool.eq_iff_iff]
          simp only [beq_iff_eq, decide_eq_true_eq]
          exact ⟨cmpN_eq, fun h => by rw [h]; exact cmpN_self _⟩
        clear hx hc1 hbr hy hyn
        go_wp2_with (go_at_call 96; refine (place1_any x id _).mono ?_; rintro e w1 ⟨rfl, hb1'⟩)
        go_ret2
        refine ⟨?_, HBR.out.trans (hb1'.mono HBR.out.size)⟩
        rw [HIS.out, ← HEQ.out, HLOW.out]
        rfl
      · obtain rfl : a = n := by omega
        have HIS : Hid (isAt os id = false) := by unfold Hid isAt; rw [HLOW.out, List.getElem?_eq_none (by have := HN.out; omega)]
        go_wp2_with fail
        go_ret2
        refine ⟨?_, hbr⟩
        rw [HIS.out, HLOW.out]
        rfl

set_option maxRecDepth 100000 in
set_option maxHeartbeats 2000000 in
theorem placeO_any (b : BoxD) (r : RB) (id : ByteArray) (w : World) (hb : BoxOf w w.heap.size b r) (hr : Rising b.objs) (ob : b.Ok) :
    Calls Try.prog 59 #[r.val, .string id] w fun e w' => e = .returned (.tuple #[.int .i64 (lowN b.objs id : Nat), .bool (isAt b.objs id)]) ∧ Below w.heap.size w w' := by
  have ho := hb.objs
  obtain ⟨po, no, co, pt, nt, ct, sq, fl, kp⟩ := r
  dsimp only [RB.val] at *
  have hB : Below w.heap.size w (w.alloc (.cells #[.slice po no co, .slice pt nt ct, .int .i64 sq, .int .i64 fl, .int .i64 kp] 35)) := (Below.refl _ _).alloc (Nat.le_refl _) _
  have HC := Lib.hid (binarySearch_any _ po no co b.objs id (ho.under hB hB.size) hr ob.objs)
  have HB := Lib.hid hB
  clear hb hr ob ho hB
  go_enter Try.func59, Try.ntmps59
  go_wp2_with (go_at_call 95; refine HC.out.mono ?_; rintro e w1 ⟨rfl, hb1⟩)
  go_ret2
  exact ⟨rfl, HB.out.trans (hb1.mono HB.out.size)⟩
end Go.Proofs.Ythgkgjcnmahacaa
end

section
/- store.Find, walked: the library's IndexFunc at objects. -/
set_option linter.unusedSimpArgs false
set_option linter.unusedVariables false
namespace Go.Proofs.Ythgkgjcnmahacaa
open Go.RowKit Go.OpenShut

/-- A box in a block of its own. -/
def BoxAt (W : World) (g : Nat) (r : RB) : Prop := W.heap[g]? = some (.cells #[.slice r.po r.no r.co, .slice r.pt r.nt r.ct, .int .i64 r.sq, .int .i64 r.fl, .int .i64 r.kp] 35 (0, 0))
theorem BoxAt.cell {W : World} {g : Nat} {r : RB} (h : BoxAt W g r) (j : Nat) {u : Value} (hu : (encB r)[j]? = some u) : W.cell? ⟨g, j, none⟩ = some u := by
  unfold BoxAt at h
  rw [cell_of_row W g j _ _ _ h, ← Array.getElem?_toList]
  exact hu
theorem BoxAt.frozen {W : World} {g : Nat} {r : RB} (h : BoxAt W g r) (j : Nat) : W.frozen? ⟨g, j, none⟩ = false := by
  unfold BoxAt at h
  simp [World.frozen?, h]
theorem BoxAt.under {W W' : World} {g B : Nat} {r : RB} (h : BoxAt W g r) (hb : Below B W W') (hg : g < B) : BoxAt W' g r := (hb.block g hg).trans h
theorem BoxAt.lt {W : World} {g : Nat} {r : RB} (h : BoxAt W g r) : g < W.heap.size := (Array.getElem?_eq_some_iff.1 h).1

/-- The object of an id. -/
def findJ (os : List (ByteArray × JV)) (id : ByteArray) : Option JV := (os.find? (fun p => decide (p.1 = id))).map (·.2)
abbrev isIdV (g : Nat) : Value := .func (.func 71) #[] #[.pointer (some ⟨g, 0, none⟩)]

set_option maxRecDepth 100000 in
theorem isIdO_any (x : RM) (g : Nat) (name : ByteArray) (w : World) (hg : w.cell? ⟨g, 0, none⟩ = some (.string name)) :
    Calls Try.prog 71 #[x.val, .pointer (some ⟨g, 0, none⟩)] w fun e w' => e = .returned (.bool (decide (x.name = name))) ∧ Below w.heap.size w w' := by
  obtain ⟨nm, k, n, s, pl, nl, cl, pm, nm', cm⟩ := x
  dsimp only [RM.val]
  have hlt := (cell_some hg).2
  have hne := World.new_ne w ⟨g, 0, none⟩ hg
  have hB : Below w.heap.size w (w.alloc (.cells #[.string nm, .int .i64 k, .int .i64 n, .string s, .slice pl nl cl, .slice pm nm' cm] 46)) := (Below.refl _ _).alloc (Nat.le_refl _) _
  have hc := bcs hB hlt hg
  have hq := str_beq nm name
  have HQ := Lib.hid hq
  clear hq
  go_enter Try.func71, Try.ntmps71
  go_wp2_with fail
  go_ret
  exact ⟨by rw [← HQ.out]; rfl, hB⟩

set_option maxRecDepth 100000 in
set_option maxHeartbeats 1000000 in
theorem indexO_any (w : World) (p : Option Addr) (n c : Nat) (rms : List RM) (hv : Rd w w.heap.size encM 6 (.slice p n c) rms) (g : Nat) (name : ByteArray) (hg : w.cell? ⟨g, 0, none⟩ = some (.string name)) (hlen : rms.length ≤ 1466015503658) :
    Calls Try.prog 70 #[.slice p n c, isIdV g] w fun e w' => e = .returned (.int .i64 (placeI (rms.findIdx? (nameB name)))) ∧ Below w.heap.size w w' := by
  have hn := rd_nlen hv
  subst hn
  have HV := Lib.hid hv
  have hgl := (cell_some hg).2
  clear hv
  go_enter Try.func70, Try.ntmps70
  go_wp2_with fail
  go_loopw [8] (fun i wr => ∃ k : Nat, k ≤ rms.length ∧ i = .int .i64 k ∧ Hid (∀ (j : Nat) y, j < k → rms[j]? = some y → nameB name y = false) ∧ Below w.heap.size w wr) (fun i _ => rms.length - (intOf i).toNat)
  case atStart => exact ⟨0, Nat.zero_le _, rfl, fun j y h => by omega, Below.refl _ _⟩
  case round =>
    obtain ⟨k, hk, rfl, hno, hbr⟩ := hrel
    by_cases hlt : k < rms.length
    · obtain ⟨x, hx⟩ : ∃ x, rms[k]? = some x := ⟨_, List.getElem?_eq_getElem hlt⟩
      obtain ⟨b1, o1, rfl, hb1, hc1⟩ := rd_at' (HV.out.below hbr (Nat.le_refl _)) hx
      have f0 := hc1 0 _ rfl
      have f1 := hc1 1 _ rfl
      have f2 := hc1 2 _ rfl
      have f3 := hc1 3 _ rfl
      have f4 := hc1 4 _ rfl
      have f5 := hc1 5 _ rfl
      rw [Nat.add_zero] at f0
      have HX := Lib.hid hx
      have hz := hbr.size
      have HBR := Lib.hid hbr
      have hgr := Lib.hid (bcs hbr hgl hg)
      cases hnb : nameB name x with
      | true =>
        have HF := Lib.hid (find_at HX.out hnb hno.out)
        have HNB : Hid (decide (x.name = name) = true) := hnb
        clear hx hc1 hbr hnb hno hg
        go_wp2_with (go_at_call 71; refine (isIdO_any x g name _ hgr.out).mono ?_; rintro e w1 ⟨rfl, hb1'⟩; rw [HNB.out])
        go_ret
        exact ⟨ret_int (by rw [HF.out]; rfl), HBR.out.trans (hb1'.mono HBR.out.size)⟩
      | false =>
        have HNB : Hid (decide (x.name = name) = false) := hnb
        have HNX : Hid (∀ (j : Nat) y, j < k + 1 → rms[j]? = some y → nameB name y = false) := by
          intro j y hj hy
          by_cases e : j = k
          · subst e
            rw [hx] at hy
            cases hy
            exact hnb
          · exact hno.out j y (by omega) hy
        clear hx hc1 hbr hnb hno hg
        go_wp2_with (go_at_call 71; refine (isIdO_any x g name _ hgr.out).mono ?_; rintro e w1 ⟨rfl, hb1'⟩; rw [HNB.out])
        go_roundw
        case rel => exact ⟨k + 1, by omega, by go_num, HNX, HBR.out.trans (hb1'.mono HBR.out.size)⟩
        case measure => simp [intOf]; omega
    · obtain rfl : k = rms.length := by omega
      have HF := Lib.hid (find_not (p := nameB name) (l := rms) (fun j y hy => hno.out j y (List.getElem?_eq_some_iff.1 hy).1 hy))
      go_wp2_with fail
      go_ret
      exact ⟨ret_int (by rw [HF.out]; rfl), hbr⟩

theorem find_same {os : List (ByteArray × JV)} {rms : List RM} (hl : os.length = rms.length) (hn : ∀ (i : Nat) p q, os[i]? = some p → rms[i]? = some q → p.1 = q.name) (id : ByteArray) : os.findIdx? (fun p => decide (p.1 = id)) = rms.findIdx? (nameB id) := by
  induction os generalizing rms with
  | nil =>
    have := List.eq_nil_of_length_eq_zero hl.symm
    subst this
    rfl
  | cons p os ih =>
    cases rms with
    | nil => simp at hl
    | cons q rms =>
      have h0 := hn 0 p q rfl rfl
      have ih := ih (rms := rms) (by simpa using hl) (fun i a b h1 h2 => hn (i + 1) a b (by simpa using h1) (by simpa using h2))
      rw [List.findIdx?_cons, List.findIdx?_cons, ih]
      unfold nameB
      rw [h0]
theorem findJ_some {os : List (ByteArray × JV)} {id : ByteArray} {i : Nat} (h : os.findIdx? (fun p => decide (p.1 = id)) = some i) : ∃ p, os[i]? = some p ∧ findJ os id = some p.2 := by
  induction os generalizing i with
  | nil => simp at h
  | cons p os ih =>
    rw [List.findIdx?_cons] at h
    unfold findJ at ih ⊢
    by_cases e : p.1 = id
    · simp [e] at h
      subst h
      exact ⟨p, rfl, by simp [List.find?_cons, e]⟩
    · simp [e] at h
      obtain ⟨j, hj, rfl⟩ := h
      obtain ⟨q, h1, h2⟩ := ih hj
      exact ⟨q, by simpa using h1, by simpa [List.find?_cons, e] using h2⟩
theorem findJ_none {os : List (ByteArray × JV)} {id : ByteArray} (h : os.findIdx? (fun p => decide (p.1 = id)) = none) : findJ os id = none := by
  unfold findJ
  rw [List.findIdx?_eq_none_iff] at h
  rw [List.find?_eq_none.2 (fun x hx => by have := h x hx; simpa using this)]
  rfl

/-- What Find answers. -/
def FindRet (w : World) (o : Option JV) (e : Ending) (w' : World) : Prop :=
  ∃ r, e = .returned (.tuple #[RV.val r, .bool o.isSome]) ∧ TreeOf w' w'.heap.size (o.getD JV.zero) r ∧ Below w.heap.size w w'

set_option maxRecDepth 100000 in
set_option maxHeartbeats 2000000 in
theorem find_any (b : BoxD) (r : RB) (id : ByteArray) (w : World) (hb : BoxOf w w.heap.size b r) (ob : b.Ok) :
    Calls Try.prog 26 #[r.val, .string id] w (FindRet w (findJ b.objs id)) := by
  have ho := hb.objs
  have hlo := ob.objs
  obtain ⟨po, no, co, pt, nt, ct, sq, fl, kp⟩ := r
  dsimp only [RB.val] at *
  obtain ⟨rms, hrd, hms⟩ := ho
  have hn := rd_nlen hrd
  have hlm := hms.len
  have hA0 : BoxAt (((w.alloc (.cells #[.slice po no co, .slice pt nt ct, .int .i64 sq, .int .i64 fl, .int .i64 kp] 35)).alloc (.cells #[.string id] 9)).alloc (.cells #[.int .i64 0, .int .i64 0, .string ⟨#[]⟩, .slice none 0 0, .slice none 0 0] 25)) w.heap.size ⟨po, no, co, pt, nt, ct, sq, fl, kp⟩ := heap_alloc_lt (by simp; omega) (heap_alloc_lt (by simp) (heap_alloc_at rfl))
  have hS0 : (((w.alloc (.cells #[.slice po no co, .slice pt nt ct, .int .i64 sq, .int .i64 fl, .int .i64 kp] 35)).alloc (.cells #[.string id] 9)).alloc (.cells #[.int .i64 0, .int .i64 0, .string ⟨#[]⟩, .slice none 0 0, .slice none 0 0] 25)).heap[w.heap.size + 1]? = some (.cells #[.string id] 9 (0, 0)) := heap_alloc_lt (by simp) (heap_alloc_at (by simp))
  have hZ0 : VAt (((w.alloc (.cells #[.slice po no co, .slice pt nt ct, .int .i64 sq, .int .i64 fl, .int .i64 kp] 35)).alloc (.cells #[.string id] 9)).alloc (.cells #[.int .i64 0, .int .i64 0, .string ⟨#[]⟩, .slice none 0 0, .slice none 0 0] 25)) (w.heap.size + 1 + 1) RV.zero := heap_alloc_at (by simp)
  have hB0 : Below w.heap.size w (((w.alloc (.cells #[.slice po no co, .slice pt nt ct, .int .i64 sq, .int .i64 fl, .int .i64 kp] 35)).alloc (.cells #[.string id] 9)).alloc (.cells #[.int .i64 0, .int .i64 0, .string ⟨#[]⟩, .slice none 0 0, .slice none 0 0] 25)) := (below2 w _ _).alloc (by simp; omega) _
  have HRD := Lib.hid hrd
  have HMS := Lib.hid hms
  have HN : Hid (b.objs.length = no ∧ rms.length = no) := ⟨by omega, by omega⟩
  clear hb ob hrd hms hn hlm
  go_enter Try.func26, Try.ntmps26
  go_upto_region 1 with fail
  obtain ⟨W0, hW0⟩ : ∃ W0, (((w.alloc (.cells #[.slice po no co, .slice pt nt ct, .int .i64 sq, .int .i64 fl, .int .i64 kp] 35)).alloc (.cells #[.string id] 9)).alloc (.cells #[.int .i64 0, .int .i64 0, .string ⟨#[]⟩, .slice none 0 0, .slice none 0 0] 25)) = W0 := ⟨_, rfl⟩
  rw [hW0] at hA0 hS0 hZ0 hB0 ⊢
  clear hW0
  have c0 := hA0.cell 0 rfl
  have hs0 : W0.cell? ⟨w.heap.size + 1, 0, none⟩ = some (.string id) := by rw [cell_of_row W0 _ 0 _ _ _ hS0]; rfl
  have HS := Lib.hid hs0
  have HC := Lib.hid (indexO_any W0 po no co rms (HRD.out.below hB0 hB0.size) (w.heap.size + 1) id HS.out (by have := HN.out; omega))
  have HB := Lib.hid hB0
  clear hs0 hB0 hS0
  go_upto_region 2 with (go_at_call 70; refine HC.out.mono ?_; rintro e w1 ⟨rfl, hb1⟩)
  have hz0 := hZ0.lt
  have HA1 := hA0.under hb1 hA0.lt
  have HZ1 := hZ0.under hb1 hz0
  have HB1 := Lib.hid (HB.out.trans (hb1.mono HB.out.size))
  have hz1 := HZ1.lt
  have c0 := HA1.cell 0 rfl
  dsimp only at c0
  have z0 := HZ1.cell 0 rfl
  have z1 := HZ1.cell 1 rfl
  have z2 := HZ1.cell 2 rfl
  have z3 := HZ1.cell 3 rfl
  have z4 := HZ1.cell 4 rfl
  have y0 := HZ1.frozen 0
  have y1 := HZ1.frozen 1
  have y2 := HZ1.frozen 2
  have y3 := HZ1.frozen 3
  have y4 := HZ1.frozen 4
  dsimp only [RV.zero] at z0 z1 z2 z3 z4
  have HZ := Lib.hid HZ1
  clear HA1 HZ1 hA0 hZ0 hb1 HC HS hz0
  cases hf : rms.findIdx? (nameB id) with
  | none =>
    have HG : Hid (findJ b.objs id = none) := findJ_none (by rw [find_same (by have := HN.out; omega) HMS.out.name]; exact hf)
    have hn1 : placeI (none : Option Nat) = -1 := rfl
    rw [hn1]
    clear hf hn1
    go_wp2_with fail
    have HZ2 := HZ.out.stored RV.zero
    refine bodyPost_ret (v := .tuple #[RV.val RV.zero, .bool false]) (by simp [results, Try.results26, go_sem, RV.zero, z0, z1, z2, z3, z4]) rfl ⟨RV.zero, by rw [HG.out]; rfl, by rw [HG.out]; exact TreeOf.zero _ _, Below.stored HB1.out (by omega) RV.zero⟩
  | some i =>
    obtain ⟨p, hp, hg⟩ := findJ_some (by rw [find_same (by have := HN.out; omega) HMS.out.name]; exact hf)
    have HG := Lib.hid hg
    have hi := (List.getElem?_eq_some_iff.1 hp).1
    obtain ⟨q, hq⟩ : ∃ q, rms[i]? = some q := ⟨_, List.getElem?_eq_getElem (by have := HN.out; omega)⟩
    have hTq := HMS.out.val i p q hp hq
    have HTq := Lib.hid (hTq.under HB1.out (Nat.le_refl _))
    obtain ⟨b1, o1, rfl, hb1, hc1⟩ := rd_at' (HRD.out.below HB1.out (Nat.le_refl _)) hq
    have f0 := hc1 0 _ rfl
    have f1 := hc1 1 _ rfl
    have f2 := hc1 2 _ rfl
    have f3 := hc1 3 _ rfl
    have f4 := hc1 4 _ rfl
    have f5 := hc1 5 _ rfl
    have hn1 : placeI (some i) = (i : Int) := rfl
    rw [hn1]
    have hi0 : (0 : Int) ≤ (i : Int) := Int.natCast_nonneg _
    have hi1 : (i : Int) < (no : Int) := by have := HN.out; omega
    clear hf hp hg hq hTq hc1 hn1
    go_wp2_with fail
    have HZ2 := HZ.out.stored q.v
    refine bodyPost_ret (v := .tuple #[RV.val q.v, .bool true]) (by simp [results, Try.results26, go_sem, z0, z1, z2, z3, z4]) rfl ⟨q.v, by rw [HG.out]; rfl, ?_, Below.stored HB1.out (by omega) q.v⟩
    rw [HG.out]
    exact HTq.out.under (Below.stored (Below.refl _ _) (by omega) q.v) (by have := HB1.out.size; simp; omega)
end Go.Proofs.Ythgkgjcnmahacaa
end

section
/- slices.Clone at api.Object, walked: a slice of the call's own with the same elements. -/
set_option linter.unusedSimpArgs false
set_option linter.unusedVariables false
namespace Go.Proofs.Ythgkgjcnmahacaa
open Go.RowKit

set_option maxRecDepth 100000 in
set_option maxHeartbeats 400000 in
theorem cloneO_any {α : Type} {enc : α → List Value} (C : Codec enc 6) (w : World) (p : Option Addr) (n c : Nat) (xs : List α) (hv : Rd w w.heap.size enc 6 (.slice p n c) xs) (hsz : xs.length * 96 ≤ 140737488355328) :
    Calls Try.prog 98 #[.slice p n c] w fun e w' => ∃ p' c', e = .returned (.slice p' n c') ∧ (p = none ↔ p' = none) ∧ Own w' w.heap.size 46 enc 6 (.slice p' n c') xs ∧ Below w.heap.size w w' := by
  have hn : n = xs.length := by
    obtain ⟨_, _, e, _⟩ := hv
    simp only [Value.slice.injEq] at e; exact e.2.1
  subst hn
  have HS := Lib.hid hsz
  have HV := Lib.hid hv
  cases p with
  | none =>
    have h0 : xs.length = 0 ∧ c = 0 := by
      obtain ⟨p', cap, he, hlc, hcm, hp0, hp⟩ := hv
      simp only [Value.slice.injEq] at he
      obtain ⟨rfl, h1, rfl⟩ := he
      have := hp0 rfl
      omega
    obtain ⟨h0, rfl⟩ := h0
    obtain rfl := List.eq_nil_of_length_eq_zero h0
    have hnil : ∀ W, (Go.binOp .eql 32 (.slice none 0 0) (.slice none 0 0)).run Try.prog W = .ok (.bool true) W := fun W => Lib.run_eql_slice_nil W 32 46 none 0 0 0 0 Try.underlying32
    clear hv
    go_enter Try.func98, Try.ntmps98
    go_wp2
    go_ret
    exact ⟨none, 0, rfl, by simp, Own.nil w _ _, Below.refl _ _⟩
  | some a =>
    have hnil : ∀ W, (Go.binOp .eql 32 (.slice (some a) xs.length c) (.slice none 0 0)).run Try.prog W = .ok (.bool false) W := fun W => Lib.run_eql_slice_nil W 32 46 (some a) xs.length c 0 0 Try.underlying32
    have hO : Own (w.alloc (.cells #[] 46)) w.heap.size 46 enc 6 (.slice (some ⟨w.heap.size, 0, none⟩) 0 0) ([] : List α) := Own.made (Nat.le_refl _)
    have hB0 : Below w.heap.size w (w.alloc (.cells #[] 46)) := (Below.refl _ _).alloc (Nat.le_refl _) _
    have HR := Lib.hid (HV.out.below hB0 (Nat.le_refl _))
    clear hv
    go_enter Try.func98, Try.ntmps98
    go_wp2_with (at_builtin; refine wpList_append_rd slO C (w.alloc (.cells #[] 46)) rfl (.tmp 5) (.tmp 6) rfl (v := .slice (some ⟨w.heap.size, 0, none⟩) 0 0) rfl rfl hO HR.out (by have := HS.out; simp; unfold maxLen; omega) (by have := HS.out; simp; omega) (by simp) ?_; intro v1 w1 ho1 hg1 hat1)
    have hb1 : Below w.heap.size w w1 := Below.appended hB0 hg1 hO (by simp)
    rw [List.nil_append] at ho1
    obtain ⟨p1, c1, rfl, _, _⟩ := ho1.len
    have hp1 : p1 ≠ none := by
      rintro rfl
      rcases hat1 with h | h <;> simp [Value.ownBlock] at h
    go_ret
    refine ⟨p1, c1, rfl, ⟨(fun h => by cases h), (fun h => absurd h hp1)⟩, ho1, hb1⟩
end Go.Proofs.Ythgkgjcnmahacaa
end

section
/- store.own: a box with lists of its own, walked. -/
set_option linter.unusedSimpArgs false
set_option linter.unusedVariables false
namespace Go.Proofs.Ythgkgjcnmahacaa
open Go.RowKit Go.OpenShut

/-- A box whose lists are the call's own, from block base on; its values lie below B. -/
structure NewBox (W : World) (base B : Nat) (b : BoxD) (r : RB) : Prop where
  objs : ∃ ros, Own W base 46 encM 6 (.slice r.po r.no r.co) ros ∧ MemsOf W B b.objs ros
  trail : Own W base 48 encE 3 (.slice r.pt r.nt r.ct) b.trail
  ok : ∀ e ∈ b.trail, e.ok
  seq : b.seq = r.sq
  floor : b.floor = r.fl
  keep : b.keep = r.kp
theorem NewBox.box {W : World} {base B : Nat} {b : BoxD} {r : RB} (h : NewBox W base B b r) (hB : B ≤ W.heap.size) : BoxOf W W.heap.size b r := by
  obtain ⟨ros, h1, h2⟩ := h.objs
  exact ⟨⟨ros, h1.rd codecM, h2.len, h2.name, fun i p q a c => (h2.val i p q a c).mono hB⟩, rdE_iff.2 ⟨h.ok, h.trail.rd codecE⟩, h.seq, h.floor, h.keep⟩
theorem NewBox.below {W W' : World} {base B : Nat} {b : BoxD} {r : RB} (h : NewBox W base B b r) (hb : Below W.heap.size W W') (hB : B ≤ W.heap.size) : NewBox W' base B b r := by
  obtain ⟨ros, h1, h2⟩ := h.objs
  exact ⟨⟨ros, h1.below hb (Nat.le_refl _), h2.under (hb.mono hB) (Nat.le_refl _)⟩, h.trail.below hb (Nat.le_refl _), h.ok, h.seq, h.floor, h.keep⟩
theorem NewBox.mono {W : World} {base base' B B' : Nat} {b : BoxD} {r : RB} (h : NewBox W base B b r) (hb : base' ≤ base) (hB : B ≤ B') : NewBox W base' B' b r := by
  obtain ⟨ros, h1, h2⟩ := h.objs
  exact ⟨⟨ros, h1.mono hb, h2.len, h2.name, fun i p q a c => (h2.val i p q a c).mono hB⟩, h.trail.mono hb, h.ok, h.seq, h.floor, h.keep⟩
/-- A store into another block than its lists'. -/
theorem NewBox.kept {W W' : World} {base B g : Nat} {b : BoxD} {r : RB} (h : NewBox W base B b r) (hg : W.grownBy W' (some g)) (h1 : (Value.slice r.po r.no r.co).ownBlock ≠ some g) (h2 : (Value.slice r.pt r.nt r.ct).ownBlock ≠ some g) (hBW : B ≤ W.heap.size) (hB : B ≤ g) : NewBox W' base B b r := by
  obtain ⟨ros, h3, h4⟩ := h.objs
  exact ⟨⟨ros, h3.kept hg (.inr h1), h4.under ((Below.refl B W).grown hg hBW (fun a e => by cases e; exact hB)) (Nat.le_refl _)⟩, h.trail.kept hg (.inr h2), h.ok, h.seq, h.floor, h.keep⟩

theorem BoxAt.set {W : World} {g : Nat} {r : RB} (h : BoxAt W g r) (p p' : Option Addr) (n n' c c' : Nat) :
    BoxAt ((W.setCell ⟨g, 0, none⟩ (.slice p n c)).setCell ⟨g, 1, none⟩ (.slice p' n' c')) g { r with po := p, no := n, co := c, pt := p', nt := n', ct := c' } := by
  unfold BoxAt at h ⊢
  simp [World.setCell, Array.getElem?_modify, h]
theorem BoxAt.stored {W : World} {g : Nat} {r : RB} (h : BoxAt W g r) (q : RB) :
    BoxAt (((((W.setCell ⟨g, 0, none⟩ (.slice q.po q.no q.co)).setCell ⟨g, 1, none⟩ (.slice q.pt q.nt q.ct)).setCell ⟨g, 2, none⟩ (.int .i64 q.sq)).setCell ⟨g, 3, none⟩ (.int .i64 q.fl)).setCell ⟨g, 4, none⟩ (.int .i64 q.kp)) g q := by
  unfold BoxAt at h ⊢
  simp [World.setCell, Array.getElem?_modify, h]
theorem BoxAt.kept {W W' : World} {g x : Nat} {r : RB} (h : BoxAt W x r) (hg : W.grownBy W' (some g)) (hne : x ≠ g) : BoxAt W' x r := (hg.block x h.lt (by simpa using hne)).trans h
theorem grownBy_setB (W : World) (g : Nat) (q : RB) :
    W.grownBy (((((W.setCell ⟨g, 0, none⟩ (.slice q.po q.no q.co)).setCell ⟨g, 1, none⟩ (.slice q.pt q.nt q.ct)).setCell ⟨g, 2, none⟩ (.int .i64 q.sq)).setCell ⟨g, 3, none⟩ (.int .i64 q.fl)).setCell ⟨g, 4, none⟩ (.int .i64 q.kp)) (some g) :=
  ((((grownBy_set W g 0 _).trans (grownBy_set _ g 1 _)).trans (grownBy_set _ g 2 _)).trans (grownBy_set _ g 3 _)).trans (grownBy_set _ g 4 _)

def NewRet (w : World) (B : Nat) (b : BoxD) (e : Ending) (w' : World) : Prop := ∃ r, e = .returned (RB.val r) ∧ NewBox w' w.heap.size B b r ∧ Below w.heap.size w w'

/-- Behind both clones. -/
structure OwnMid (w W : World) (B : Nat) (b : BoxD) (q : RB) : Prop where
  box : BoxAt W w.heap.size q
  zero : BoxAt W (w.heap.size + 1) RB.zero
  new : NewBox W w.heap.size B b q
  below : Below w.heap.size w W
  b1 : (Value.slice q.po q.no q.co).ownBlock ≠ some (w.heap.size + 1)
  b2 : (Value.slice q.pt q.nt q.ct).ownBlock ≠ some (w.heap.size + 1)
theorem OwnMid.mk' {w w0 w1 w2 : World} {B : Nat} {b : BoxD} {po p' p2 pt : Option Addr} {no co nt ct c' c2 : Nat} {sq fl kp : Int} {ros : List RM} (hA : BoxAt w0 w.heap.size ⟨po, no, co, pt, nt, ct, sq, fl, kp⟩) (hZ : BoxAt w0 (w.heap.size + 1) RB.zero) (hB0 : Below w.heap.size w w0) (hw : w0.heap.size = w.heap.size + 1 + 1)
    (ho1 : Own w1 w0.heap.size 46 encM 6 (.slice p' no c') ros) (hb1 : Below w0.heap.size w0 w1) (ho2 : Own w2 w1.heap.size 48 encE 3 (.slice p2 nt c2) b.trail) (hb2 : Below w1.heap.size w1 w2) (hms : MemsOf w B b.objs ros) (hBw : B ≤ w.heap.size) (hok : ∀ e ∈ b.trail, e.ok) (he : b.seq = sq ∧ b.floor = fl ∧ b.keep = kp) :
    OwnMid w ((w2.setCell ⟨w.heap.size, 0, none⟩ (.slice p' no c')).setCell ⟨w.heap.size, 1, none⟩ (.slice p2 nt c2)) B b ⟨p', no, c', p2, nt, c2, sq, fl, kp⟩ := by
  have hz1 := hb1.size
  have hz2 := hb2.size
  have hA2 : BoxAt w2 w.heap.size ⟨po, no, co, pt, nt, ct, sq, fl, kp⟩ := (hA.under hb1 (by omega)).under hb2 (by omega)
  have hZ2 : BoxAt w2 (w.heap.size + 1) RB.zero := (hZ.under hb1 (by omega)).under hb2 (by omega)
  have hg : w2.grownBy ((w2.setCell ⟨w.heap.size, 0, none⟩ (.slice p' no c')).setCell ⟨w.heap.size, 1, none⟩ (.slice p2 nt c2)) (some w.heap.size) := (grownBy_set w2 _ 0 _).trans (grownBy_set _ _ 1 _)
  have ho1' : Own w2 w.heap.size 46 encM 6 (.slice p' no c') ros := (ho1.below hb2 (Nat.le_refl _)).mono (by omega)
  have hbb : Below w.heap.size w w2 := (hB0.trans (hb1.mono (by omega))).trans (hb2.mono (by omega))
  have n1 : (Value.slice p' no c').ownBlock ≠ some w.heap.size := fun e => by have := (ho1.lt _ e).1; omega
  have n2 : (Value.slice p2 nt c2).ownBlock ≠ some w.heap.size := fun e => by have := (ho2.lt _ e).1; omega
  refine ⟨hA2.set _ _ _ _ _ _, hZ2.kept hg (by omega), ?_, hbb.grown hg (by omega) (fun a e => by cases e; exact Nat.le_refl _), fun e => by have := (ho1.lt _ e).1; omega, fun e => by have := (ho2.lt _ e).1; omega⟩
  exact NewBox.kept (W := w2) (g := w.heap.size) ⟨⟨ros, ho1', hms.under (hbb.mono hBw) (Nat.le_refl _)⟩, ho2.mono (by omega), hok, he.1, he.2.1, he.2.2⟩ hg n1 n2 (by omega) hBw

set_option maxRecDepth 100000 in
set_option maxHeartbeats 4000000 in
theorem own_any (b : BoxD) (r : RB) (w : World) (B : Nat) (hBw : B ≤ w.heap.size) (hb : BoxOf w B b r) (ob : b.Ok) :
    Calls Try.prog 63 #[r.val] w (NewRet w B b) := by
  obtain ⟨po, no, co, pt, nt, ct, sq, fl, kp⟩ := r
  obtain ⟨⟨ros, hro, hms⟩, htr, hsq, hfl, hkp⟩ := hb
  dsimp only [RB.val] at *
  have hlo := hms.len
  have hno := rd_nlen hro
  have hnt := htr.nlen
  have hzo := ob.objs
  have hzt := ob.trail
  obtain ⟨hok, hrt⟩ := rdE_iff.1 htr
  have hA0 : BoxAt ((w.alloc (.cells #[.slice po no co, .slice pt nt ct, .int .i64 sq, .int .i64 fl, .int .i64 kp] 35)).alloc (.cells #[.slice none 0 0, .slice none 0 0, .int .i64 0, .int .i64 0, .int .i64 0] 35)) w.heap.size ⟨po, no, co, pt, nt, ct, sq, fl, kp⟩ := heap_alloc_lt (by simp) (heap_alloc_at rfl)
  have hZ0 : BoxAt ((w.alloc (.cells #[.slice po no co, .slice pt nt ct, .int .i64 sq, .int .i64 fl, .int .i64 kp] 35)).alloc (.cells #[.slice none 0 0, .slice none 0 0, .int .i64 0, .int .i64 0, .int .i64 0] 35)) (w.heap.size + 1) RB.zero := heap_alloc_at (by simp)
  have hB0 := below2 w (.cells #[.slice po no co, .slice pt nt ct, .int .i64 sq, .int .i64 fl, .int .i64 kp] 35) (.cells #[.slice none 0 0, .slice none 0 0, .int .i64 0, .int .i64 0, .int .i64 0] 35)
  have HRO := Lib.hid hro
  have HRT := Lib.hid hrt
  have HOK := Lib.hid hok
  have HMS := Lib.hid hms
  have HZO : Hid (ros.length * 96 ≤ 140737488355328) := by unfold Hid; omega
  have HZT : Hid (b.trail.length * 32 ≤ 140737488355328) := by unfold Hid; omega
  have HEQ : Hid (b.seq = sq ∧ b.floor = fl ∧ b.keep = kp) := ⟨hsq, hfl, hkp⟩
  have HNT := Lib.hid hnt
  clear hlo hno hnt hzo hzt hok hrt htr hro hms hsq hfl hkp ob
  go_enter Try.func63, Try.ntmps63
  go_upto_region 1 with fail
  obtain ⟨W0, hW0⟩ : ∃ W0, ((w.alloc (.cells #[.slice po no co, .slice pt nt ct, .int .i64 sq, .int .i64 fl, .int .i64 kp] 35)).alloc (.cells #[.slice none 0 0, .slice none 0 0, .int .i64 0, .int .i64 0, .int .i64 0] 35)) = W0 := ⟨_, rfl⟩
  have hws : W0.heap.size = w.heap.size + 1 + 1 := by rw [← hW0]; simp
  rw [hW0] at hA0 hZ0 hB0 ⊢
  clear hW0
  have HWS := Lib.hid hws
  have c0 := hA0.cell 0 rfl
  have c1 := hA0.cell 1 rfl
  dsimp only at c0 c1
  have hz := hA0.lt
  have HAD : Hid (BoxAt W0.drew w.heap.size ⟨po, no, co, pt, nt, ct, sq, fl, kp⟩) := hA0
  have HZD : Hid (BoxAt W0.drew (w.heap.size + 1) RB.zero) := hZ0
  have HB0 := Lib.hid hB0
  clear hA0 hZ0 hB0 hws
  go_region_law (first
    | (go_simp; go_at_call 98; refine (cloneO_any codecM _ po no co ros (HRO.out.below (HB0.out.drew.mono hBw) (Nat.le_trans hBw HB0.out.size)) HZO.out).mono ?_; rintro e w1 ⟨p', c', rfl, hpn1, ho1, hb1⟩; (have c0' := bcs hb1 hz c0); (have c1' := bcs hb1 hz c1))
    | (go_simp; go_at_call 99; refine (cloneE_any codecE _ _ b.trail (HRT.out.below ((HB0.out.drew.trans (hb1.mono HB0.out.size)).mono hBw) (Nat.le_trans hBw (HB0.out.drew.trans (hb1.mono HB0.out.size)).size)) HZT.out).mono ?_; rintro e w2 ⟨u2, rfl, ho2, hb2⟩; obtain ⟨p2, c2, hu2, _, _⟩ := ho2.len; rw [HNT.out] at hu2; subst hu2; (have hA2 := (HAD.out.under hb1 hz).under hb2 (Nat.lt_of_lt_of_le hz hb1.size)); (have d0 := hA2.cell 0 rfl); (have d1 := hA2.cell 1 rfl); (have x0 := hA2.frozen 0); (have x1 := hA2.frozen 1)))
  all_goals (
    have hM := OwnMid.mk' (w := w) HAD.out HZD.out HB0.out.drew HWS.out ho1 hb1 ho2 hb2 HMS.out hBw HOK.out HEQ.out
    obtain ⟨W3, hW3⟩ : ∃ W3, (w2.setCell ⟨w.heap.size, 0, none⟩ (.slice p' no c')).setCell ⟨w.heap.size, 1, none⟩ (.slice p2 nt c2) = W3 := ⟨_, rfl⟩
    rw [hW3] at hM ⊢
    clear hW3 c0 c1 c0' c1' d0 d1 x0 x1 hA2 ho1 ho2 hb1 hb2 hz
    have HM := Lib.hid hM
    have a0 := hM.box.cell 0 rfl
    have a1 := hM.box.cell 1 rfl
    have a2 := hM.box.cell 2 rfl
    have a3 := hM.box.cell 3 rfl
    have a4 := hM.box.cell 4 rfl
    have z0 := hM.zero.cell 0 rfl
    have z1 := hM.zero.cell 1 rfl
    have z2 := hM.zero.cell 2 rfl
    have z3 := hM.zero.cell 3 rfl
    have z4 := hM.zero.cell 4 rfl
    dsimp only [RB.zero] at a0 a1 a2 a3 a4 z0 z1 z2 z3 z4
    have y0 := hM.zero.frozen 0
    have y1 := hM.zero.frozen 1
    have y2 := hM.zero.frozen 2
    have y3 := hM.zero.frozen 3
    have y4 := hM.zero.frozen 4
    clear hM
    go_wp2_with fail
    have hS := HM.out.zero.stored ⟨p', no, c', p2, nt, c2, sq, fl, kp⟩
    have hg := grownBy_setB W3 (w.heap.size + 1) ⟨p', no, c', p2, nt, c2, sq, fl, kp⟩
    refine bodyPost_ret (v := RB.val ⟨p', no, c', p2, nt, c2, sq, fl, kp⟩) (by simp [results, Try.results63, go_sem, z0, z1, z2, z3, z4]) rfl ⟨⟨p', no, c', p2, nt, c2, sq, fl, kp⟩, rfl, HM.out.new.kept hg HM.out.b1 HM.out.b2 (by have := HM.out.below.size; omega) (by omega), HM.out.below.grown hg (by have := HM.out.below.size; omega) (fun a e => by cases e; omega)⟩)
end Go.Proofs.Ythgkgjcnmahacaa
end
