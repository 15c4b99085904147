import Derived.Test.YtffhccmppdgmfaaGreatDoorProg
import Derived.WalkKit
import Derived.WalkSpells
import Derived.Lib.Hide
import Derived.Outline
set_option linter.unusedSimpArgs false
set_option linter.unusedVariables false
set_option maxRecDepth 200000
set_option maxHeartbeats 8000000
namespace Go.Proofs.YtffhccmppdgmfaaGreatDoor
section
open Go Go.RowKit
def szN (b : Nat) : Nat := if b < 128 then 1 else if b < 194 then 0 else if b < 224 then 2 else if b < 240 then 3 else if b < 245 then 4 else 0
def szP (b : Nat) : Int := if b < 128 then b else if b < 194 then 0 else if b < 224 then b % 32 else if b < 240 then b % 16 else if b < 245 then b % 8 else 0
theorem szN_le (b : Nat) : szN b <= 4 := by
 unfold szN
 repeat' split
 all_goals omega
theorem ret2_int {k l : IntKind} {a b c d : Int} (h : a = b) (h' : c = d) : Ending.returned (.tuple #[.int k a, .int l c]) = .returned (.tuple #[.int k b, .int l d]) := by rw [h, h']
theorem usize_any (b : UInt8) (w : World) : Calls Tryz.prog 169 #[.int .u8 b.toNat] w fun e w' => e = .returned (.tuple #[.int .i64 (szN b.toNat), .int .i32 (szP b.toNat)]) /\ w = w' := by
 have hb : (b.toNat : Int) < 256 := by have := b.toNat_lt; omega
 have h0 : (0 : Int) <= (b.toNat : Int) := Int.natCast_nonneg _
 go_enter Tryz.func169, Tryz.ntmps169
 go_wp2_with fail
 all_goals go_ret2
 all_goals refine ⟨ret2_int ?_ ?_, rfl⟩
 all_goals (first | unfold szN | unfold szP)
 all_goals (repeat' split)
 all_goals omega
def fitsB (p n : Int) : Bool := if n = 3 then decide (2048 <= p) && (decide (p < 55296) || decide (57343 < p)) else if n = 4 then decide (65536 <= p) && decide (p <= 1114111) else true
theorem ret_boolU {a b : Bool} (h : a = b) : Ending.returned (.bool a) = .returned (.bool b) := by rw [h]
theorem ufits_any (p n : Int) (w : World) : Calls Tryz.prog 170 #[.int .i32 p, .int .i64 n] w fun e w' => e = .returned (.bool (fitsB p n)) /\ w = w' := by
 by_cases h3 : n = 3
 ·subst h3
  by_cases a : 2048 <= p <;> by_cases b : p < 55296 <;> by_cases c : 57343 < p
  all_goals first | (exfalso; omega) | skip
  all_goals go_enter Tryz.func170, Tryz.ntmps170
  all_goals go_wp2_with fail
  all_goals go_ret
  all_goals refine ⟨ret_boolU ?_, rfl⟩
  all_goals simp [fitsB] <;> omega
 ·by_cases h4 : n = 4
  ·subst h4
   clear h3
   by_cases a : 65536 <= p <;> by_cases b : p <= 1114111
   all_goals first | (exfalso; omega) | skip
   all_goals go_enter Tryz.func170, Tryz.ntmps170
   all_goals go_wp2_with fail
   all_goals go_ret
   all_goals refine ⟨ret_boolU ?_, rfl⟩
   all_goals simp [fitsB] <;> omega
  ·have q3 : (n == 3) = false := by simpa using h3
   have q4 : (n == 4) = false := by simpa using h4
   have hf : Hid (fitsB p n = true) := by unfold Hid fitsB; rw [if_neg h3, if_neg h4]
   clear h3 h4
   go_enter Tryz.func170, Tryz.ntmps170
   go_wp2_with fail
   go_ret
   exact ⟨ret_boolU hf.out.symm, rfl⟩
def stepU (p : Int) (b : UInt8) : Int := bits BinOp.or IntKind.i32 (wrap32 (p * 64)) ((b.toNat : Int) % 64)
def contU (s : ByteArray) (i : Nat) (p0 : Int) : Nat -> Option Int
 | 0 => some p0
 | k + 1 => match contU s i p0 k with
   | none => none
   | some p => if s[i + (k + 1)]!.toNat < 128 \/ 191 < s[i + (k + 1)]!.toNat then none else some (stepU p s[i + (k + 1)]!)
def oneU (s : ByteArray) (i : Nat) : Int × Nat := if i < s.size then
    if szN s[i]!.toNat = 0 \/ s.size < i + szN s[i]!.toNat then (0, 0) else
    match contU s i (szP s[i]!.toNat) (szN s[i]!.toNat - 1) with
    | none => (0, 0)
    | some p => if fitsB p (szN s[i]!.toNat : Nat) = true then (p, szN s[i]!.toNat) else (0, 0)
 else (0, 0)
theorem contU_none {s : ByteArray} {i : Nat} {p0 : Int} {k m : Nat} (h : contU s i p0 k = none) (hm : k <= m) : contU s i p0 m = none := by
 induction m with
 | zero => obtain rfl : k = 0 := by omega
           exact h
 | succ m ih =>
   by_cases e : k = m + 1
   ·subst e; exact h
   ·unfold contU
    rw [ih (by omega)]
theorem get_bang (s : ByteArray) (j : Nat) (h : j < s.size) : s[j]! = s[j] := getElem!_pos s j h
theorem contU_bad {s : ByteArray} {i : Nat} {p0 p : Int} {k : Nat} (h : contU s i p0 k = some p) (hj : i + (k + 1) < s.size) (hb : s[i + (k + 1)].toNat < 128 \/ 191 < s[i + (k + 1)].toNat) : contU s i p0 (k + 1) = none := by
 unfold contU
 rw [h, get_bang s _ hj]
 simp only
 rw [if_pos hb]
theorem contU_good {s : ByteArray} {i : Nat} {p0 p : Int} {k : Nat} (h : contU s i p0 k = some p) (hj : i + (k + 1) < s.size) (h1 : ¬ s[i + (k + 1)].toNat < 128) (h2 : ¬ 191 < s[i + (k + 1)].toNat) : contU s i p0 (k + 1) = some (stepU p s[i + (k + 1)]) := by
 unfold contU
 rw [h, get_bang s _ hj]
 simp only
 rw [if_neg (by omega)]
theorem oneU_at {s : ByteArray} {i : Nat} (hi : i < s.size) : oneU s i = if szN s[i].toNat = 0 \/ s.size < i + szN s[i].toNat then (0, 0) else
 match contU s i (szP s[i].toNat) (szN s[i].toNat - 1) with
 | none => (0, 0)
 | some p => if fitsB p (szN s[i].toNat : Nat) = true then (p, szN s[i].toNat) else (0, 0) := by
 unfold oneU
 rw [if_pos hi, get_bang s i hi]
theorem oneU_bad {s : ByteArray} {i n : Nat} {p0 : Int} {k : Nat} (hi : i < s.size) (hn : szN s[i].toNat = n) (hp : szP s[i].toNat = p0) (h : contU s i p0 k = none) (hk : k <= n - 1) : oneU s i = (0, 0) := by
 rw [oneU_at hi, hn, hp]
 split
 ·rfl
 ·rw [contU_none h hk]
theorem oneU_end {s : ByteArray} {i n : Nat} {p0 p : Int} (hi : i < s.size) (hn : szN s[i].toNat = n) (hp : szP s[i].toNat = p0) (h0 : n ≠ 0) (hle : i + n <= s.size) (h : contU s i p0 (n - 1) = some p) : oneU s i = if fitsB p n = true then (p, n) else (0, 0) := by
 rw [oneU_at hi, hn, hp, if_neg (by omega), h]
theorem oneU_le (s : ByteArray) (i : Nat) (hi : i <= s.size) : i + (oneU s i).2 <= s.size /\ (oneU s i).2 <= 4 := by
 by_cases h : i < s.size
 ·rw [oneU_at h]
  have := szN_le s[i].toNat
  split
  ·simp; omega
  ·split
   ·simp; omega
   ·split
    ·dsimp only; omega
    ·simp; omega
 ·unfold oneU
  rw [if_neg h]
  simp; omega
theorem ret_one {s : ByteArray} {i : Nat} {a : Int} {b : Nat} (h : oneU s i = (a, b)) : Ending.returned (.tuple #[.int .i32 a, .int .i64 b]) = .returned (.tuple #[.int .i32 (oneU s i).1, .int .i64 (oneU s i).2]) := by rw [h]
theorem one_any (s : ByteArray) (i : Nat) (w : World) (hs : s.size <= maxLen) (hi : i < s.size) :
 Calls Tryz.prog 152 #[.string s, .int .i64 i] w fun e w' => e = .returned (.tuple #[.int .i32 (oneU s i).1, .int .i64 (oneU s i).2]) /\ w = w' := by
 unfold maxLen at hs
 have h0 : (0 : Int) <= (i : Int) := Int.natCast_nonneg _
 obtain ⟨n, hn⟩ : ∃ n, szN s[i].toNat = n := ⟨_, rfl⟩
 obtain ⟨p0, hp⟩ : ∃ p, szP s[i].toNat = p := ⟨_, rfl⟩
 have hN : n <= 4 := hn ▸ szN_le _
 have HC : Hid (∀ w : World, Calls Tryz.prog 169 #[.int .u8 s[i].toNat] w fun e w' => e = .returned (.tuple #[.int .i64 n, .int .i32 p0]) /\ w = w') := by
  unfold Hid; subst hn hp; exact fun w => usize_any s[i] w
 have HN := Lib.hid hn
 have HP := Lib.hid hp
 have HI := Lib.hid hi
 clear hn hp
 by_cases hn0 : n = 0
 ·subst hn0
  have HR : Hid (oneU s i = (0, 0)) := by unfold Hid; rw [oneU_at hi, if_pos (.inl HN.out)]
  go_enter Tryz.func152, Tryz.ntmps152
  go_wp2_with (go_at_call 169; refine (HC.out _).mono ?_; rintro e w' ⟨rfl, rfl⟩)
  go_ret2
  exact ⟨ret_one HR.out, rfl⟩
 have q0 : ((n : Int) == 0) = false := by simp; omega
 have HN0 := Lib.hid hn0
 clear hn0
 by_cases hle : i + n <= s.size
 ·have HLE := Lib.hid hle
  go_enter Tryz.func152, Tryz.ntmps152
  go_wp2_with (go_at_call 169; refine (HC.out _).mono ?_; rintro e w' ⟨rfl, rfl⟩)
  go_loop [7, 8] (fun pt iv => ∃ (k : Nat) (p : Int), k + 1 <= n /\ iv = .int .i64 ((k + 1 : Nat) : Int) /\ pt = .int .i32 p /\ Hid (contU s i p0 k = some p)) (fun _ iv => n - (intOf iv).toNat)
  case atStart => exact ⟨0, p0, by simp at q0; omega, by go_num, rfl, rfl⟩
  case round =>
   obtain ⟨k, p, hk, rfl, rfl, hc⟩ := hrel
   by_cases hlt : k + 1 < n
   ·have hk0 : (0 : Int) <= ((k + 1 : Nat) : Int) := Int.natCast_nonneg _
    have hx : i + (k + 1) < s.size := by omega
    by_cases hb1 : s[i + (k + 1)].toNat < 128
    ·have HR := Lib.hid (oneU_bad HI.out HN.out HP.out (contU_bad hc.out hx (.inl hb1)) (by omega))
     go_wp2_with fail
     go_ret2
     exact ⟨ret_one HR.out, rfl⟩
    ·by_cases hb2 : 191 < s[i + (k + 1)].toNat
     ·have HR := Lib.hid (oneU_bad HI.out HN.out HP.out (contU_bad hc.out hx (.inr hb2)) (by omega))
      go_wp2_with fail
      go_ret2
      exact ⟨ret_one HR.out, rfl⟩
     ·have HR := Lib.hid (contU_good hc.out hx hb1 hb2)
      go_wp2_with fail
      refine ⟨⟨k + 1, _, by omega, by go_num, rfl, HR⟩, by simp [intOf]; omega⟩
   ·obtain rfl : n = k + 1 := by omega
    have HE : Hid (oneU s i = if fitsB p ((k + 1 : Nat) : Int) = true then (p, k + 1) else (0, 0)) := oneU_end HI.out HN.out HP.out HN0.out HLE.out hc.out
    have HF : Hid (∀ (m : Int) (w : World), m = ((k + 1 : Nat) : Int) -> Calls Tryz.prog 170 #[.int .i32 p, .int .i64 m] w fun e w' => e = .returned (.bool (fitsB p ((k + 1 : Nat) : Int))) /\ w = w') := by
     intro m w hm
     subst hm
     exact ufits_any _ _ _
    unfold Hid at HE
    generalize fitsB p ((k + 1 : Nat) : Int) = b at HE HF
    have HE := Lib.hid HE
    cases b with
    | true =>
      go_wp2_with fail
      refine (HF.out _ _ (by simp)).mono ?_
      rintro e w' ⟨rfl, rfl⟩
      go_wp2_with fail
      go_ret2
      exact ⟨by rw [<- ret_one (a := p) (b := k + 1) (by rw [HE.out]; rfl)]; rfl, rfl⟩
    | false =>
      go_wp2_with fail
      refine (HF.out _ _ (by simp)).mono ?_
      rintro e w' ⟨rfl, rfl⟩
      go_wp2_with fail
      go_ret2
      exact ⟨ret_one (by rw [HE.out]; rfl), rfl⟩
 ·go_enter Tryz.func152, Tryz.ntmps152
  have HR : Hid (oneU s i = (0, 0)) := by unfold Hid; rw [oneU_at HI.out, HN.out, if_pos (.inr (by omega))]
  go_wp2_with (go_at_call 169; refine (HC.out _).mono ?_; rintro e w' ⟨rfl, rfl⟩)
  go_ret2
  exact ⟨ret_one HR.out, rfl⟩
end
end Go.Proofs.YtffhccmppdgmfaaGreatDoor
