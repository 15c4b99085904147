/- The exchange of two ranges, as the library's stable sort has it, at elements of 6 cells. -/
import Derived.Test.YthgkgjcnmahacaaProg
import Derived.Test.YthgkgjcnmahacaaStab1
import Derived.Shelf.SlSortCmp.KitK
import Derived.Sort.WalkB2
import Derived.Sort.WalkB12
import Derived.Deep.LoopGhost
import Derived.WalkKit
import Derived.Lib.Hide
set_option linter.unusedSimpArgs false
set_option linter.unusedVariables false
namespace Go.Proofs.Ythgkgjcnmahacaa
open Go.Shelf Go.RowKit Go.Lib Go.Sort
namespace SM
def ren : Ren := ⟨fun | 20 => 113 | n => n, fun | 24 => 90 | 22 => 23 | 3 => 3 | 25 => 93 | 4 => 4 | 0 => 0 | n => n, fun | n => n⟩

/-- What the walks ask of a program: its bodies, its types. (The element's cells are k, a variable: the walk then takes them by runs.) -/
structure Lays (P : Program) (k : Nat) : Prop where
  mixed : P.follows .mixedOrders = true
  fSwap : P.funcs[147]? = some Try.f147
  fRot : P.funcs[134]? = some Try.f134
  fSym : P.funcs[114]? = some Try.f114
  fStab : P.funcs[88]? = some Try.f88
  fTop : P.funcs[53]? = some Try.f53
  ins : SlLaysF0.n20 P ren
  aE : ∀ w, (isAgg 90).run P w = .ok true w
  zE : ∀ w, (Go.sizeOf 90).run P w = .ok k w
  t0 : P.underlying 0 = some (TypeDesc.tuple #[])
  a0 : ∀ w, (isAgg 0).run P w = .ok false w
  z0 : ∀ w, (Go.sizeOf 0).run P w = .ok 1 w
  v0 : ∀ w, (zeroValue 0).run P w = .ok (Value.tuple #[]) w
  t3 : P.underlying 3 = some (TypeDesc.int IntKind.i64)
  a3 : ∀ w, (isAgg 3).run P w = .ok false w
  z3 : ∀ w, (Go.sizeOf 3).run P w = .ok 1 w
  v3 : ∀ w, (zeroValue 3).run P w = .ok (Value.int IntKind.i64 0) w
  t4 : P.underlying 4 = some (TypeDesc.bool)
  a4 : ∀ w, (isAgg 4).run P w = .ok false w
  z4 : ∀ w, (Go.sizeOf 4).run P w = .ok 1 w
  v4 : ∀ w, (zeroValue 4).run P w = .ok (Value.bool false) w
  tu : P.underlying 161 = some (TypeDesc.int IntKind.u64)
  au : ∀ w, (isAgg 161).run P w = .ok false w
  zu : ∀ w, (Go.sizeOf 161).run P w = .ok 1 w
  vu : ∀ w, (zeroValue 161).run P w = .ok (Value.int IntKind.u64 0) w
  tS : P.underlying 23 = some (TypeDesc.slice 90)
  aS : ∀ w, (isAgg 23).run P w = .ok false w
  zS : ∀ w, (Go.sizeOf 23).run P w = .ok 1 w
  vS : ∀ w, (zeroValue 23).run P w = .ok (Value.slice none 0 0) w
  tC : P.underlying 93 = some (TypeDesc.func #[90, 90] #[3] false)
  aC : ∀ w, (isAgg 93).run P w = .ok false w
  zC : ∀ w, (Go.sizeOf 93).run P w = .ok 1 w
  vC : ∀ w, (zeroValue 93).run P w = .ok (Value.nilFunc) w

theorem insLays : SlLaysF0.n20 Try.prog ren := {
  mixed := by kernel_rfl
  f20 := ⟨Try.f113.name, by decide, Try.func113.trans (congrArg some (by kernel_rfl))⟩
  t0 := Try.underlying0
  a0 := Try.isAgg0
  z0 := Try.sizeOf0
  v0 := Try.zeroValue0
  t3 := Try.underlying3
  a3 := Try.isAgg3
  z3 := Try.sizeOf3
  v3 := Try.zeroValue3
  t4 := Try.underlying4
  a4 := Try.isAgg4
  z4 := Try.sizeOf4
  v4 := Try.zeroValue4
  t22 := Try.underlying23
  a22 := Try.isAgg23
  z22 := Try.sizeOf23
  v22 := Try.zeroValue23
  t25 := Try.underlying93
  a25 := Try.isAgg93
  z25 := Try.sizeOf93
  v25 := Try.zeroValue93 }

theorem lays : Lays Try.prog 6 := {
  mixed := by kernel_rfl
  fSwap := Try.func147
  fRot := Try.func134
  fSym := Try.func114
  fStab := Try.func88
  fTop := Try.func53
  ins := insLays
  aE := Try.isAgg90
  zE := Try.sizeOf90
  t0 := Try.underlying0
  a0 := Try.isAgg0
  z0 := Try.sizeOf0
  v0 := Try.zeroValue0
  t3 := Try.underlying3
  a3 := Try.isAgg3
  z3 := Try.sizeOf3
  v3 := Try.zeroValue3
  t4 := Try.underlying4
  a4 := Try.isAgg4
  z4 := Try.sizeOf4
  v4 := Try.zeroValue4
  tu := Try.underlying161
  au := Try.isAgg161
  zu := Try.sizeOf161
  vu := Try.zeroValue161
  tS := Try.underlying23
  aS := Try.isAgg23
  zS := Try.sizeOf23
  vS := Try.zeroValue23
  tC := Try.underlying93
  aC := Try.isAgg93
  zC := Try.sizeOf93
  vC := Try.zeroValue93 }

variable {P : Program} {α : Type} [Inhabited α]

set_option maxHeartbeats 4000000 in
set_option maxRecDepth 1000000 in
theorem swapRange_any (k : Nat) (L : Lays P k) (enc : α → List Value) (g : Nat) (cb : Array Value) (blk off cap a b n : Nat) (d0 d : Array α) (w0 w : World)
    (R : RowK enc k w0 blk off d0) (hs : d0.size = d.size) (S : SWK enc k w0 blk off d w) (hab : a + n ≤ b) (hb : b + n ≤ d.size) (hsz : d.size < 4611686018427387904) :
    Calls P 147 #[.slice (some ⟨blk, off, none⟩) d.size cap, .int .i64 a, .int .i64 b, .int .i64 n, .func (.func g) #[] cb] w fun e w' => e = .returned (.tuple #[]) ∧ SWK enc k w0 blk off (swr d a b n) w' := by
  have mixed := L.mixed; have aE := L.aE; have zE := L.zE; have t0 := L.t0; have a0 := L.a0; have z0 := L.z0; have v0 := L.v0; have t3 := L.t3; have a3 := L.a3; have z3 := L.z3; have v3 := L.v3; have t4 := L.t4; have a4 := L.a4; have z4 := L.z4; have v4 := L.v4; have tS := L.tS; have aS := L.aS; have zS := L.zS; have vS := L.vS; have tC := L.tC; have aC := L.aC; have zC := L.zC; have vC := L.vC
  have FG := L.fSwap
  have S0 : Aside (SWK enc k w0 blk off d w) := S
  clear S
  go_enter FG, Try.ntmps147
  go_wp2
  go_loopg [10] n (fun kx s10 wr => ∃ (i : Nat), s10 = .int .i64 i ∧ i ≤ n ∧ n - i ≤ kx ∧ Aside (SWK enc k w0 blk off (swr d a b i) wr))
  case atStart => exact ⟨0, rfl, Nat.zero_le _, by omega, S0⟩
  case round =>
    clear S0
    obtain ⟨i, rfl, hin, hkx, S1⟩ := hrel
    by_cases hlt : i < n
    · have hltz : (i : Int) < (n : Int) := by omega
      have hds : (swr d a b i).size = d.size := size_swr _ _ _ _
      generalize hdk : swr d a b i = dk at S1 hds
      have HDK := Lib.hid hdk
      clear hdk
      go_wp2_with fail
      have ea44 : ((a : Int) + (i : Int)).toNat = a + i := by omega
      have pa44 : (0 : Int) ≤ (a : Int) + (i : Int) := by omega
      have ba44 : (a : Int) + (i : Int) < (d.size : Int) := by omega
      have ec44 : ((b : Int) + (i : Int)).toNat = b + i := by omega
      have pc44 : (0 : Int) ≤ (b : Int) + (i : Int) := by omega
      have bc44 : (b : Int) + (i : Int) < (d.size : Int) := by omega
      have S2 : Aside (SWK enc k w0 blk off (swp dk (a + i) (b + i)) ((wr.drew.setCells blk (off + (a + i) * k) (enc dk[b + i]!)).setCells blk (off + (b + i) * k) (enc dk[a + i]!))) := S1.out.swapped R (a + i) (b + i) (by omega) (by omega)
      have l44a := S1.out.ld1 R (by omega) P (a + i) (by omega)
      have l44b := S1.out.ld1 R (by omega) P (b + i) (by omega)
      have s44a := S1.out.st1 R (by omega) P (a + i) (by omega) dk[b + i]!
      have s44b := S1.out.st2 R (by omega) P (a + i) (b + i) (by omega) (by omega) dk[b + i]! dk[a + i]!
      have n44a : (enc dk[a + i]!).length = k := R.hk _
      have n44b : (enc dk[b + i]!).length = k := R.hk _
      generalize enc dk[a + i]! = cI44 at S2 l44a s44b n44a
      generalize enc dk[b + i]! = cJ44 at S2 l44b s44a s44b n44b
      clear S1
      go_big_region_o
      clear l44a l44b s44a s44b
      generalize (wr.drew.setCells blk (off + (a + i) * k) cJ44).setCells blk (off + (b + i) * k) cI44 = w2 at S2 ⊢
      go_wp2
      go_roundg (n - (i + 1))
      case measure => omega
      case rel => exact ⟨i + 1, by go_num, by omega, by omega, by rw [← HDK.out] at S2; exact S2⟩
    · obtain rfl : i = n := by omega
      go_wp2
      go_end0
      exact ⟨rfl, S1.out⟩
end SM
end Go.Proofs.Ythgkgjcnmahacaa
