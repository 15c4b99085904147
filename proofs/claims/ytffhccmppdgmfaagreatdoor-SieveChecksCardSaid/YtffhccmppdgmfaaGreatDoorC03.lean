import Derived.Test.YtffhccmppdgmfaaGreatDoorC02
import Derived.Test.YtffhccmppdgmfaaGreatDoorC01
import Derived.Deep.RegionHeld3
import Derived.Deep.RegionLaw
set_option linter.unusedSimpArgs false
set_option linter.unusedVariables false
set_option maxRecDepth 200000
set_option maxHeartbeats 8000000
namespace Go.Proofs.YtffhccmppdgmfaaGreatDoor
section
open Go Go.RowKit
def badU (s : ByteArray) : Nat -> Nat -> Nat
 | 0, a => a
 | f + 1, a => if a < s.size /\ (oneU s a).2 ≠ 0 then badU s f (a + (oneU s a).2) else a
def badF (s : ByteArray) : Nat := badU s s.size 0
theorem badU_le (s : ByteArray) : ∀ f a, a <= s.size -> badU s f a <= s.size
 | 0, a, h => h
 | f + 1, a, h => by
   unfold badU
   split
   ·exact badU_le s f _ (oneU_le s a h).1
   ·exact h
theorem badF_le (s : ByteArray) : badF s <= s.size := badU_le s _ _ (Nat.zero_le _)
theorem badU_yes {s : ByteArray} {f a n : Nat} {p : Int} (ha : a < s.size) (ho : oneU s a = (p, n)) (hn : n ≠ 0) : badU s (f + 1) a = badU s f (a + n) := by
 rw [badU, if_pos ⟨ha, by rw [ho]; exact hn⟩, ho]
theorem badU_no {s : ByteArray} {f a : Nat} {p : Int} (ho : oneU s a = (p, 0)) : badU s f a = a := by
 cases f with
 | zero => rfl
 | succ f => rw [badU, if_neg (by rw [ho]; simp)]
theorem badU_end {s : ByteArray} {f : Nat} : badU s f s.size = s.size := by
 cases f with
 | zero => rfl
 | succ f => rw [badU, if_neg (by simp)]
theorem ret_int1 {k : IntKind} {a b : Int} (h : a = b) : Ending.returned (.int k a) = .returned (.int k b) := by rw [h]
theorem bad_any (s : ByteArray) (w : World) (hs : s.size <= maxLen) :
 Calls Tryz.prog 135 #[.string s] w fun e w' => e = .returned (.int .i64 (badF s : Nat)) /\ w = w' := by
 have HS := Lib.hid hs
 unfold maxLen at hs
 go_enter Tryz.func135, Tryz.ntmps135
 go_wp2_with fail
 go_loop [3] (fun av => ∃ (a f : Nat), a <= s.size /\ s.size <= a + f /\ av = .int .i64 a /\ Hid (badU s f a = badF s)) (fun av => s.size - (intOf av).toNat)
 case atStart => exact ⟨0, s.size, Nat.zero_le _, by omega, rfl, rfl⟩
 case round =>
  obtain ⟨a, f, ha, hf, rfl, hb⟩ := hrel
  by_cases hlt : a < s.size
  ·have HC : Hid (∀ w : World, Calls Tryz.prog 152 #[.string s, .int .i64 a] w fun e w' => e = .returned (.tuple #[.int .i32 (oneU s a).1, .int .i64 (oneU s a).2]) /\ w = w') := fun w => one_any s a w HS.out hlt
   have hle := oneU_le s a ha
   obtain ⟨f, rfl⟩ : ∃ f', f = f' + 1 := ⟨f - 1, by omega⟩
   unfold Hid at HC
   generalize ho : oneU s a = o at HC hle
   obtain ⟨p, n⟩ := o
   dsimp only at HC hle
   have HC := Lib.hid HC
   by_cases h0 : n = 0
   ·subst h0
    have HR : Hid (a = badF s) := by have h := hb.out; rw [badU_no ho] at h; exact h
    clear ho
    go_wp2_with (go_at_call 152; refine (HC.out _).mono ?_; rintro e w' ⟨rfl, rfl⟩)
    go_ret
    exact ⟨ret_int1 (by rw [<- HR.out]), rfl⟩
   ·have HR : Hid (badU s f (a + n) = badF s) := by have h := hb.out; rw [badU_yes hlt ho h0] at h; exact h
    have q0 : ((n : Int) == 0) = false := by simp; omega
    clear ho
    go_wp2_with (go_at_call 152; refine (HC.out _).mono ?_; rintro e w' ⟨rfl, rfl⟩)
    exact ⟨⟨a + n, f, hle.1, by omega, by go_num, HR⟩, by simp [intOf]; omega⟩
  ·obtain rfl : a = s.size := by omega
   have HR : Hid (s.size = badF s) := by have h := hb.out; rw [badU_end] at h; exact h
   go_wp2_with fail
   go_ret
   exact ⟨ret_int1 (by rw [<- HR.out]), rfl⟩
end
section
open Go Go.RowKit Go.OpenShut
def escN (c : Nat) : Nat := if c = 34 \/ c = 92 then c else if c = 8 then 98 else if c = 9 then 116 else if c = 10 then 110 else if c = 12 then 102 else if c = 13 then 114 else 0
def hexD (n : Nat) : UInt8 := if n < 10 then UInt8.ofNat (48 + n) else UInt8.ofNat (87 + n)
theorem and15 {n : Nat} (h : n < 32) : bits BinOp.and IntKind.u8 (n : Int) 15 = (n : Int) % 16 :=
 (by decide +kernel : ∀ m : Fin 32, bits BinOp.and IntKind.u8 ((m.val : Nat) : Int) 15 = ((m.val : Nat) : Int) % 16) ⟨n, h⟩
theorem hex_get (n : Nat) (h : n < 16) (h' : n < (⟨#[48, 49, 50, 51, 52, 53, 54, 55, 56, 57, 97, 98, 99, 100, 101, 102]⟩ : ByteArray).size) : (⟨#[48, 49, 50, 51, 52, 53, 54, 55, 56, 57, 97, 98, 99, 100, 101, 102]⟩ : ByteArray)[n]'h' = hexD n :=
 (by decide +kernel : ∀ m : Fin 16, (⟨#[48, 49, 50, 51, 52, 53, 54, 55, 56, 57, 97, 98, 99, 100, 101, 102]⟩ : ByteArray)[m.val]'m.isLt = hexD m.val) ⟨n, h⟩
def escL (c : UInt8) : List UInt8 := if escN c.toNat ≠ 0 then [92, UInt8.ofNat (escN c.toNat)] else if c.toNat < 32 then [92, 117, 48, 48, hexD (c.toNat / 16), hexD (c.toNat % 16)] else [c]
def quoM (l : List UInt8) : List UInt8 := l.flatMap escL
def quoL (s : ByteArray) : List UInt8 := if badF s = s.size then 34 :: quoM s.data.toList ++ [34] else []
theorem escL_len (c : UInt8) : (escL c).length <= 6 := by unfold escL; split <;> (try split) <;> simp
theorem quoM_len (l : List UInt8) : (quoM l).length <= 6 * l.length := by
 induction l with
 | nil => simp [quoM]
 | cons c l ih =>
   unfold quoM at ih ⊢
   rw [List.flatMap_cons, List.length_append, List.length_cons]
   have := escL_len c
   omega
theorem quoM_take {l : List UInt8} {k : Nat} {c : UInt8} (h : l[k]? = some c) : quoM (l.take (k + 1)) = quoM (l.take k) ++ escL c := by
 unfold quoM
 rw [List.take_add_one, h]
 simp
def QuoRet (w : World) (s : ByteArray) (e : Ending) (w' : World) : Prop := e = .returned (.tuple #[.string (toB (quoL s)), .bool (decide (badF s = s.size))]) /\ Below w.heap.size w w'
def natD (n : Nat) : List UInt8 := if n < 10 then [UInt8.ofNat (48 + n)] else natD (n / 10) ++ [UInt8.ofNat (48 + n % 10)]
termination_by n
decreasing_by omega
theorem natD_low {n : Nat} (h : n / 10 = 0) : natD n = [UInt8.ofNat (48 + n % 10)] := by
 rw [natD, if_pos (by omega), Nat.mod_eq_of_lt (by omega)]
theorem natD_high {n : Nat} (h : n / 10 ≠ 0) : natD n = natD (n / 10) ++ [UInt8.ofNat (48 + n % 10)] := by
 rw [natD, if_neg (by omega)]
theorem natD_len : ∀ (k n : Nat), n < 10 ^ (k + 1) -> (natD n).length <= k + 1
 | 0, n, h => by rw [natD, if_pos (by simpa using h)]; simp
 | k + 1, n, h => by
   by_cases h0 : n / 10 = 0
   ·rw [natD_low h0]; simp
   ·rw [natD_high h0, List.length_append, List.length_singleton]
    have := natD_len k (n / 10) (by rw [Nat.div_lt_iff_lt_mul (by decide)]; rw [Nat.pow_succ] at h; omega)
    omega
def numL (n : Int) : List UInt8 := (if n < 0 then [45] else []) ++ natD n.natAbs
theorem natD_19 {n : Int} (h : (Lit.int .i64 n).wf = true) : (natD n.natAbs).length <= 19 := by
 have := bounds_i64 h
 exact natD_len 18 _ (by omega)
theorem numL_len {n : Int} (h : (Lit.int .i64 n).wf = true) : (numL n).length <= 20 := by
 unfold numL
 have := natD_19 h
 split <;> simp <;> omega
def PutRet (w : World) (n : Int) (e : Ending) (w' : World) : Prop := e = .returned (.string (toB (numL n))) /\ Below w.heap.size w w'
theorem ret_boolI {a b : Bool} (h : a = b) : Ending.returned (.bool a) = .returned (.bool b) := by rw [h]
def idCh (c : UInt8) : Bool := decide (97 <= c.toNat) && decide (c.toNat <= 122) || decide (65 <= c.toNat) && decide (c.toNat <= 90) || decide (48 <= c.toNat) && decide (c.toNat <= 57) || decide (c.toNat = 45) || decide (c.toNat = 95)
def idAll (s : ByteArray) : Bool := s.data.toList.all idCh
def idB (s : ByteArray) : Bool := decide (1 <= s.size) && decide (s.size <= 255) && idAll s
theorem idAll_yes {s : ByteArray} (h : ∀ j, j < s.size -> idCh s[j]! = true) : idAll s = true := by
 unfold idAll
 rw [List.all_eq_true]
 intro c hc
 obtain ⟨j, hj, e⟩ := List.getElem_of_mem hc
 have hj' : j < s.size := by rw [<- str_len]; exact hj
 have := h j hj'
 rw [get_bang s j hj'] at this
 rw [<- e]
 exact this
theorem idAll_no {s : ByteArray} {j : Nat} (hj : j < s.size) (h : idCh s[j]! = false) : idAll s = false := by
 unfold idAll
 rw [List.all_eq_false]
 refine ⟨s[j], ?_, by rw [<- get_bang s j hj, h]; simp⟩
 exact List.getElem_mem (l := s.data.toList) (by rw [str_len]; exact hj)
theorem identIs_any (s : ByteArray) (w : World) (hs : s.size <= maxLen) : Calls Tryz.prog 115 #[.string s] w fun e w' => e = .returned (.bool (idB s)) /\ w' = w := by
 unfold maxLen at hs
 by_cases h1 : s.size < 1
 ·have HR : Hid (idB s = false) := by unfold Hid idB; rw [decide_eq_false (by omega)]; rfl
  have q1 : decide ((s.size : Int) < 1) = true := by simp; omega
  have q2 : (s.size : Int) < 1 := by omega
  have q3 : s.size < 1 := h1
  rw [HR.out]
  clear HR
  go_enter Tryz.func115, Tryz.ntmps115
  go_wp2_with fail
  go_ret
  exact ⟨rfl, rfl⟩
 ·by_cases h2 : 255 < s.size
  ·have HR : Hid (idB s = false) := by unfold Hid idB; rw [decide_eq_false (p := s.size <= 255) (by omega), Bool.and_false]; rfl
   have q1 : decide ((s.size : Int) < 1) = false := by simp; omega
   have q2 : ¬ (s.size : Int) < 1 := by omega
   have q4 : decide ((255 : Int) < (s.size : Int)) = true := by simp; omega
   have q5 : (255 : Int) < (s.size : Int) := by omega
   rw [HR.out]
   clear HR
   go_enter Tryz.func115, Tryz.ntmps115
   go_wp2_with fail
   go_ret
   exact ⟨rfl, rfl⟩
  ·have HR : Hid (idB s = idAll s) := by unfold Hid idB; rw [decide_eq_true (by omega), decide_eq_true (by omega)]; rfl
   have q1 : decide ((s.size : Int) < 1) = false := by simp; omega
   have q2 : ¬ (s.size : Int) < 1 := by omega
   have q4 : decide ((255 : Int) < (s.size : Int)) = false := by simp; omega
   have q5 : ¬ (255 : Int) < (s.size : Int) := by omega
   rw [HR.out]
   clear HR
   go_enter Tryz.func115, Tryz.ntmps115
   go_wp2_with fail
   go_loop [15] (fun i => ∃ k : Nat, k <= s.size /\ i = .int .i64 (k : Int) /\ Hid (∀ j, j < k -> idCh s[j]! = true)) (fun i => s.size - (intOf i).toNat)
   case atStart => exact ⟨0, Nat.zero_le _, rfl, fun j h => by omega⟩
   case round =>
    obtain ⟨k, hk, rfl, hall⟩ := hrel
    by_cases hlt : k < s.size
    ·have k0 : (0 : Int) <= (k : Int) := Int.natCast_nonneg _
     have k1 : (k : Int) < (s.size : Int) := by omega
     have b0 : (0 : Int) <= ((s[k].toNat : Nat) : Int) := Int.natCast_nonneg _
     have hcc : Hid (idCh s[k]! = idCh s[k]) := by unfold Hid; rw [get_bang s k hlt]
     obtain ⟨c, hc⟩ : ∃ c, s[k] = c := ⟨_, rfl⟩
     rw [hc] at hcc b0
     have HC := Lib.hid hc
     by_cases a1 : 97 <= c.toNat <;> by_cases a2 : c.toNat <= 122 <;> by_cases a3 : 65 <= c.toNat <;> by_cases a4 : c.toNat <= 90 <;> by_cases a5 : 48 <= c.toNat <;> by_cases a6 : c.toNat <= 57 <;> by_cases a7 : c.toNat = 45 <;> by_cases a8 : c.toNat = 95
     all_goals first | (exfalso; omega) | skip
     all_goals
      have hp : Hid (idCh c = (decide (97 <= c.toNat) && decide (c.toNat <= 122) || decide (65 <= c.toNat) && decide (c.toNat <= 90) || decide (48 <= c.toNat) && decide (c.toNat <= 57) || decide (c.toNat = 45) || decide (c.toNat = 95))) := rfl
      first
       | (have d1 : decide ((97 : Int) <= ((c.toNat : Nat) : Int)) = true := decide_eq_true (by omega)
          have p1 : (97 : Int) <= ((c.toNat : Nat) : Int) := by omega)
       | (have d1 : decide ((97 : Int) <= ((c.toNat : Nat) : Int)) = false := decide_eq_false (by omega)
          have p1 : ¬ ((97 : Int) <= ((c.toNat : Nat) : Int)) := by omega)
      first
       | (have d2 : decide (((c.toNat : Nat) : Int) <= 122) = true := decide_eq_true (by omega)
          have p2 : ((c.toNat : Nat) : Int) <= 122 := by omega)
       | (have d2 : decide (((c.toNat : Nat) : Int) <= 122) = false := decide_eq_false (by omega)
          have p2 : ¬ (((c.toNat : Nat) : Int) <= 122) := by omega)
      first
       | (have d3 : decide ((65 : Int) <= ((c.toNat : Nat) : Int)) = true := decide_eq_true (by omega)
          have p3 : (65 : Int) <= ((c.toNat : Nat) : Int) := by omega)
       | (have d3 : decide ((65 : Int) <= ((c.toNat : Nat) : Int)) = false := decide_eq_false (by omega)
          have p3 : ¬ ((65 : Int) <= ((c.toNat : Nat) : Int)) := by omega)
      first
       | (have d4 : decide (((c.toNat : Nat) : Int) <= 90) = true := decide_eq_true (by omega)
          have p4 : ((c.toNat : Nat) : Int) <= 90 := by omega)
       | (have d4 : decide (((c.toNat : Nat) : Int) <= 90) = false := decide_eq_false (by omega)
          have p4 : ¬ (((c.toNat : Nat) : Int) <= 90) := by omega)
      first
       | (have d5 : decide ((48 : Int) <= ((c.toNat : Nat) : Int)) = true := decide_eq_true (by omega)
          have p5 : (48 : Int) <= ((c.toNat : Nat) : Int) := by omega)
       | (have d5 : decide ((48 : Int) <= ((c.toNat : Nat) : Int)) = false := decide_eq_false (by omega)
          have p5 : ¬ ((48 : Int) <= ((c.toNat : Nat) : Int)) := by omega)
      first
       | (have d6 : decide (((c.toNat : Nat) : Int) <= 57) = true := decide_eq_true (by omega)
          have p6 : ((c.toNat : Nat) : Int) <= 57 := by omega)
       | (have d6 : decide (((c.toNat : Nat) : Int) <= 57) = false := decide_eq_false (by omega)
          have p6 : ¬ (((c.toNat : Nat) : Int) <= 57) := by omega)
      first
       | (have d7 : (((c.toNat : Nat) : Int) == 45) = true := by simp; omega)
       | (have d7 : (((c.toNat : Nat) : Int) == 45) = false := by simp; omega)
      first
       | (have d8 : (((c.toNat : Nat) : Int) == 95) = true := by simp; omega)
       | (have d8 : (((c.toNat : Nat) : Int) == 95) = false := by simp; omega)
      go_wp2_with fail
      first
       | (go_round
          case rel =>
           refine ⟨k + 1, by omega, by go_num, fun j hj => ?_⟩
           by_cases e : j = k
           ·subst e; rw [hcc.out, hp.out]; simp [a1, a2, a3, a4, a5, a6, a7, a8]
           ·exact hall.out j (by omega)
          case measure => simp [intOf]; omega)
       | (go_ret
          refine ⟨ret_boolI ?_, rfl⟩
          exact (idAll_no hlt (by rw [hcc.out, hp.out]; simp [a1, a2, a3, a4, a5, a6, a7, a8])).symm)
    ·obtain rfl : k = s.size := by omega
     go_wp2_with fail
     go_ret
     exact ⟨ret_boolI (idAll_yes hall.out).symm, rfl⟩
theorem refIs_any (s : ByteArray) (w : World) (hs : s.size <= maxLen) : Calls Tryz.prog 90 #[.string s] w fun e w' => e = .returned (.bool (idB s)) /\ w' = w := by
 unfold maxLen at hs
 go_enter Tryz.func90, Tryz.ntmps90
 go_wp2_with fail
 go_loop [3] (fun i => ∃ k : Nat, k <= s.size /\ i = .int .i64 (k : Int) /\ Hid (∀ j, j < k -> idCh s[j]! = true)) (fun i => s.size - (intOf i).toNat)
 case atStart => exact ⟨0, Nat.zero_le _, rfl, fun j h => by omega⟩
 case round =>
  obtain ⟨k, hk, rfl, hall⟩ := hrel
  by_cases hlt : k < s.size
  ·have k0 : (0 : Int) <= (k : Int) := Int.natCast_nonneg _
   have k1 : (k : Int) < (s.size : Int) := by omega
   have b0 : (0 : Int) <= ((s[k].toNat : Nat) : Int) := Int.natCast_nonneg _
   have hcc : Hid (idCh s[k]! = idCh s[k]) := by unfold Hid; rw [get_bang s k hlt]
   obtain ⟨c, hc⟩ : ∃ c, s[k] = c := ⟨_, rfl⟩
   rw [hc] at hcc b0
   have HC := Lib.hid hc
   by_cases a1 : 97 <= c.toNat <;> by_cases a2 : c.toNat <= 122 <;> by_cases a3 : 65 <= c.toNat <;> by_cases a4 : c.toNat <= 90 <;> by_cases a5 : 48 <= c.toNat <;> by_cases a6 : c.toNat <= 57 <;> by_cases a7 : c.toNat = 45 <;> by_cases a8 : c.toNat = 95
   all_goals first | (exfalso; omega) | skip
   all_goals
    have hp : Hid (idCh c = (decide (97 <= c.toNat) && decide (c.toNat <= 122) || decide (65 <= c.toNat) && decide (c.toNat <= 90) || decide (48 <= c.toNat) && decide (c.toNat <= 57) || decide (c.toNat = 45) || decide (c.toNat = 95))) := rfl
    first
     | (have d1 : decide (((c.toNat : Nat) : Int) < 97) = true := decide_eq_true (by omega)
        have p1 : ((c.toNat : Nat) : Int) < 97 := by omega)
     | (have d1 : decide (((c.toNat : Nat) : Int) < 97) = false := decide_eq_false (by omega)
        have p1 : ¬ (((c.toNat : Nat) : Int) < 97) := by omega)
    first
     | (have d2 : decide ((122 : Int) < ((c.toNat : Nat) : Int)) = true := decide_eq_true (by omega)
        have p2 : (122 : Int) < ((c.toNat : Nat) : Int) := by omega)
     | (have d2 : decide ((122 : Int) < ((c.toNat : Nat) : Int)) = false := decide_eq_false (by omega)
        have p2 : ¬ ((122 : Int) < ((c.toNat : Nat) : Int)) := by omega)
    first
     | (have d3 : decide (((c.toNat : Nat) : Int) < 65) = true := decide_eq_true (by omega)
        have p3 : ((c.toNat : Nat) : Int) < 65 := by omega)
     | (have d3 : decide (((c.toNat : Nat) : Int) < 65) = false := decide_eq_false (by omega)
        have p3 : ¬ (((c.toNat : Nat) : Int) < 65) := by omega)
    first
     | (have d4 : decide ((90 : Int) < ((c.toNat : Nat) : Int)) = true := decide_eq_true (by omega)
        have p4 : (90 : Int) < ((c.toNat : Nat) : Int) := by omega)
     | (have d4 : decide ((90 : Int) < ((c.toNat : Nat) : Int)) = false := decide_eq_false (by omega)
        have p4 : ¬ ((90 : Int) < ((c.toNat : Nat) : Int)) := by omega)
    first
     | (have d5 : decide (((c.toNat : Nat) : Int) < 48) = true := decide_eq_true (by omega)
        have p5 : ((c.toNat : Nat) : Int) < 48 := by omega)
     | (have d5 : decide (((c.toNat : Nat) : Int) < 48) = false := decide_eq_false (by omega)
        have p5 : ¬ (((c.toNat : Nat) : Int) < 48) := by omega)
    first
     | (have d6 : decide ((57 : Int) < ((c.toNat : Nat) : Int)) = true := decide_eq_true (by omega)
        have p6 : (57 : Int) < ((c.toNat : Nat) : Int) := by omega)
     | (have d6 : decide ((57 : Int) < ((c.toNat : Nat) : Int)) = false := decide_eq_false (by omega)
        have p6 : ¬ ((57 : Int) < ((c.toNat : Nat) : Int)) := by omega)
    first
     | (have d7 : (((c.toNat : Nat) : Int) != 45) = true := by simp; omega)
     | (have d7 : (((c.toNat : Nat) : Int) != 45) = false := by simp; omega)
    first
     | (have d8 : (((c.toNat : Nat) : Int) != 95) = true := by simp; omega)
     | (have d8 : (((c.toNat : Nat) : Int) != 95) = false := by simp; omega)
    go_wp2_with fail
    first
     | (go_round
        case rel =>
         refine ⟨k + 1, by omega, by go_num, fun j hj => ?_⟩
         by_cases e : j = k
         ·subst e; rw [hcc.out, hp.out]; simp [a1, a2, a3, a4, a5, a6, a7, a8]
         ·exact hall.out j (by omega)
        case measure => simp [intOf]; omega)
     | (go_ret
        refine ⟨ret_boolI ?_, rfl⟩
        unfold idB
        rw [idAll_no hlt (by rw [hcc.out, hp.out]; simp [a1, a2, a3, a4, a5, a6, a7, a8]), Bool.and_false])
  ·obtain rfl : k = s.size := by omega
   have HA := Lib.hid (idAll_yes hall.out)
   by_cases h1 : 1 <= s.size <;> by_cases h2 : s.size <= 255
   all_goals first | (exfalso; omega) | skip
   all_goals
    first
     | (have d1 : decide ((1 : Int) <= (s.size : Int)) = true := decide_eq_true (by omega)
        have p1 : (1 : Int) <= (s.size : Int) := by omega)
     | (have d1 : decide ((1 : Int) <= (s.size : Int)) = false := decide_eq_false (by omega)
        have p1 : ¬ ((1 : Int) <= (s.size : Int)) := by omega)
    first
     | (have d2 : decide ((s.size : Int) <= 255) = true := decide_eq_true (by omega)
        have p2 : (s.size : Int) <= 255 := by omega)
     | (have d2 : decide ((s.size : Int) <= 255) = false := decide_eq_false (by omega)
        have p2 : ¬ ((s.size : Int) <= 255) := by omega)
    have hr : Hid (idB s = (decide (1 <= s.size) && decide (s.size <= 255))) := by unfold Hid idB; rw [HA.out, Bool.and_true]
    go_wp2_with fail
    go_ret
    refine ⟨ret_boolI ?_, rfl⟩
    rw [hr.out]
    simp [h1, h2]
end
section
open Go.RowKit Go.OpenShut
structure MemsOf (w : World) (B : Nat) (ms : List (ByteArray × JV)) (rms : List RM) : Prop where
 len : ms.length = rms.length
 name : ∀ (i : Nat) (p : ByteArray × JV) (q : RM), ms[i]? = some p -> rms[i]? = some q -> p.1 = q.name
 val : ∀ (i : Nat) (p : ByteArray × JV) (q : RM), ms[i]? = some p -> rms[i]? = some q -> TreeOf w B p.2 q.v
theorem MemsOf.under {w w' : World} {B B' : Nat} {ms : List (ByteArray × JV)} {rms : List RM} (h : MemsOf w B ms rms) (hb : Below B w w') (hB : B <= B') : MemsOf w' B' ms rms :=
 ⟨h.len, h.name, fun i p q h1 h2 => (h.val i p q h1 h2).under hb hB⟩
theorem MemsOf.nil (w : World) (B : Nat) : MemsOf w B [] [] := ⟨rfl, fun i p q h => by simp at h, fun i p q h => by simp at h⟩
theorem MemsOf.set {w : World} {B : Nat} {ms : List (ByteArray × JV)} {rms : List RM} (h : MemsOf w B ms rms) (i : Nat) {p : ByteArray × JV} {q : RM} (hn : p.1 = q.name) (ht : TreeOf w B p.2 q.v) : MemsOf w B (ms.set i p) (rms.set i q) := by
 refine ⟨by rw [List.length_set, List.length_set, h.len], fun j a b h1 h2 => ?_, fun j a b h1 h2 => ?_⟩
 ·rw [List.getElem?_set] at h1 h2
  split at h1
  ·rename_i e
   rw [if_pos e] at h2
   split at h1
   ·rw [if_pos (by rw [<- h.len]; assumption)] at h2
    cases h1; cases h2; exact hn
   ·cases h1
  ·rename_i e
   rw [if_neg e] at h2
   exact h.name j a b h1 h2
 ·rw [List.getElem?_set] at h1 h2
  split at h1
  ·rename_i e
   rw [if_pos e] at h2
   split at h1
   ·rw [if_pos (by rw [<- h.len]; assumption)] at h2
    cases h1; cases h2; exact ht
   ·cases h1
  ·rename_i e
   rw [if_neg e] at h2
   exact h.val j a b h1 h2
theorem MemsOf.snoc {w : World} {B : Nat} {ms : List (ByteArray × JV)} {rms : List RM} (h : MemsOf w B ms rms) {p : ByteArray × JV} {q : RM} (hn : p.1 = q.name) (ht : TreeOf w B p.2 q.v) : MemsOf w B (ms ++ [p]) (rms ++ [q]) := by
 have key : ∀ (j : Nat) (a : ByteArray × JV) (b : RM), (ms ++ [p])[j]? = some a -> (rms ++ [q])[j]? = some b -> (ms[j]? = some a /\ rms[j]? = some b) \/ (a = p /\ b = q) := by
  intro j a b h1 h2
  have hl := h.len
  by_cases hj : j < ms.length
  ·rw [List.getElem?_append_left hj] at h1
   rw [List.getElem?_append_left (by omega)] at h2
   exact .inl ⟨h1, h2⟩
  ·rw [List.getElem?_append_right (by omega)] at h1 h2
   have : j - ms.length = 0 := by
    have := (List.getElem?_eq_some_iff.1 h1).1
    simp at this; omega
   rw [this] at h1
   rw [<- hl, this] at h2
   simp at h1 h2
   exact .inr ⟨h1.symm, h2.symm⟩
 refine ⟨by simp [h.len], fun j a b h1 h2 => ?_, fun j a b h1 h2 => ?_⟩
 ·rcases key j a b h1 h2 with ⟨h1, h2⟩ | ⟨rfl, rfl⟩
  ·exact h.name j a b h1 h2
  ·exact hn
 ·rcases key j a b h1 h2 with ⟨h1, h2⟩ | ⟨rfl, rfl⟩
  ·exact h.val j a b h1 h2
  ·exact ht
theorem TreeOf.mems {w : World} {B : Nat} {t : JV} {r : RV} (h : TreeOf w B t r) : ∃ rms, Rd w B encM 6 (.slice r.pm r.nm r.cm) rms /\ MemsOf w B t.m rms /\ t.k = r.k := by
 cases h with
 | mk hl el hcl hm em hcn hcm => exact ⟨_, hm, ⟨em, hcn, hcm⟩, rfl⟩
theorem TreeOf.map {w : World} {B base : Nat} {ms : List (ByteArray × JV)} {rms : List RM} {pm : Option Addr} {nm cm : Nat} (h : Own w base 32 encM 6 (.slice pm nm cm) rms) (hm : MemsOf w B ms rms) (hB : B <= w.heap.size) :
 TreeOf w w.heap.size (.mk 6 0 ⟨#[]⟩ [] ms) ⟨6, 0, ⟨#[]⟩, none, 0, 0, pm, nm, cm⟩ :=
 TreeOf.mk (r := ⟨6, 0, ⟨#[]⟩, none, 0, 0, pm, nm, cm⟩) (rs := []) (rms := rms) (Rd.nil _ _) rfl (fun i t q h => by simp at h) (h.rd codecM) hm.len hm.name (fun i p q h1 h2 => (hm.val i p q h1 h2).mono hB)
def putM (o : Option Nat) (ms : List (ByteArray × JV)) (name : ByteArray) (x : JV) : List (ByteArray × JV) := match o with
 | some i => ms.set i (name, x)
 | none => ms ++ [(name, x)]
def MapRet (w : World) (B : Nat) (ms : List (ByteArray × JV)) (e : Ending) (w' : World) : Prop :=
 ∃ pm nm cm rms, e = .returned (RV.val ⟨6, 0, ⟨#[]⟩, none, 0, 0, pm, nm, cm⟩) /\ Own w' w.heap.size 32 encM 6 (.slice pm nm cm) rms /\ MemsOf w' B ms rms /\ Below w.heap.size w w'
theorem grownBy_set (W : World) (b o : Nat) (v : Value) : W.grownBy (W.setCell ⟨b, o, none⟩ v) (some b) :=
 ⟨rfl, rfl, rfl, by simp, fun k _ hk => heap_setCell_other W ⟨b, o, none⟩ k v (fun e => hk (by simp [e]))⟩
theorem grownBy_set5 (W : World) (g : Nat) (q : RV) : W.grownBy (((((W.setCell ⟨g, 0, none⟩ (.int .i64 q.k)).setCell ⟨g, 1, none⟩ (.int .i64 q.n)).setCell ⟨g, 2, none⟩ (.string q.s)).setCell ⟨g, 3, none⟩ (.slice q.pl q.nl q.cl)).setCell ⟨g, 4, none⟩ (.slice q.pm q.nm q.cm)) (some g) :=
 ((((grownBy_set W g 0 _).trans (grownBy_set _ g 1 _)).trans (grownBy_set _ g 2 _)).trans (grownBy_set _ g 3 _)).trans (grownBy_set _ g 4 _)
theorem Own.storedV {w : World} {base : Nat} {g n cap : Nat} {xs : List RM} (h : Own w base 32 encM 6 (.slice (some ⟨g, 0, none⟩) n cap) xs) {k : Nat} {x : RM} (hx : xs[k]? = some x) (q : RV) :
 Own (((((w.setCell ⟨g, k * 6 + 1, none⟩ (.int .i64 q.k)).setCell ⟨g, k * 6 + 2, none⟩ (.int .i64 q.n)).setCell ⟨g, k * 6 + 3, none⟩ (.string q.s)).setCell ⟨g, k * 6 + 4, none⟩ (.slice q.pl q.nl q.cl)).setCell ⟨g, k * 6 + 5, none⟩ (.slice q.pm q.nm q.cm)) base 32 encM 6 (.slice (some ⟨g, 0, none⟩) n cap) (xs.set k ⟨x.name, q⟩) /\
 w.grownBy (((((w.setCell ⟨g, k * 6 + 1, none⟩ (.int .i64 q.k)).setCell ⟨g, k * 6 + 2, none⟩ (.int .i64 q.n)).setCell ⟨g, k * 6 + 3, none⟩ (.string q.s)).setCell ⟨g, k * 6 + 4, none⟩ (.slice q.pl q.nl q.cl)).setCell ⟨g, k * 6 + 5, none⟩ (.slice q.pm q.nm q.cm)) (some g) := by
 have hk := (List.getElem?_eq_some_iff.1 hx).1
 have gs : ∀ (ys : List RM) (y : RM), k < ys.length -> (ys.set k y)[k]? = some y := fun ys y hy => by simp [List.getElem?_set, hy]
 have s1 := Own.storedAt codecM h (j := 1) (y := ⟨x.name, { x.v with k := q.k }⟩) (u := .int .i64 q.k) hx (by decide) rfl
 have s2 := Own.storedAt codecM s1.1 (j := 2) (y := ⟨x.name, { x.v with k := q.k, n := q.n }⟩) (u := .int .i64 q.n) (gs _ _ hk) (by decide) rfl
 have s3 := Own.storedAt codecM s2.1 (j := 3) (y := ⟨x.name, { x.v with k := q.k, n := q.n, s := q.s }⟩) (u := .string q.s) (gs _ _ (by simpa using hk)) (by decide) rfl
 have s4 := Own.storedAt codecM s3.1 (j := 4) (y := ⟨x.name, { x.v with k := q.k, n := q.n, s := q.s, pl := q.pl, nl := q.nl, cl := q.cl }⟩) (u := .slice q.pl q.nl q.cl) (gs _ _ (by simpa using hk)) (by decide) rfl
 have s5 := Own.storedAt codecM s4.1 (j := 5) (y := ⟨x.name, q⟩) (u := .slice q.pm q.nm q.cm) (gs _ _ (by simpa using hk)) (by decide) rfl
 simp only [List.set_set] at s5
 exact ⟨s5.1, (((s1.2.trans s2.2).trans s3.2).trans s4.2).trans s5.2⟩
theorem members_any (t : JV) (r : RV) (w : World) (B : Nat) (hBw : B <= w.heap.size) (ht : TreeOf w B t r) (ot : t.Ok) :
 Calls Tryz.prog 75 #[r.val] w fun e w' => ∃ p n c rms, e = .returned (.slice p n c) /\ Own w' w.heap.size 32 encM 6 (.slice p n c) rms /\ MemsOf w' B t.mem rms /\ Below w.heap.size w w' := by
 obtain ⟨rms, hm, hms, hk⟩ := ht.mems
 obtain ⟨k, n, s, pl, nl, cl, pm, nm, cm⟩ := r
 obtain ⟨tk, tn, ts, tl, tm⟩ := t
 cases ot with
 | mk _ _ _ bl bm okl oks okm =>
 dsimp only [RV.val, JV.k, JV.m] at *
 subst hk
 have hlen : rms.length <= 1466015503658 := by have := hms.len; omega
 have HMS := Lib.hid hms
 have hB0 : Below w.heap.size w (w.alloc (.cells #[.int .i64 tk, .int .i64 n, .string s, .slice pl nl cl, .slice pm nm cm] 25)) := (Below.refl _ _).alloc (Nat.le_refl _) _
 have HM := Lib.hid ((hm.below (hB0.mono hBw) (Nat.le_refl _)).mono (Nat.le_trans hBw hB0.size))
 clear hms hm oks okl okm ht
 by_cases h6 : tk = 6
 ·subst h6
  have HE : Hid ((JV.mk 6 tn ts tl tm).mem = tm) := rfl
  go_enter Tryz.func75, Tryz.ntmps75
  go_wp2_with (go_at_call 70; refine (cloneM_any codecM _ pm nm cm rms HM.out (by omega)).mono ?_; rintro e w1 ⟨p1, c1, rfl, _, ho1, hb1⟩)
  go_ret
  exact ⟨p1, nm, c1, rms, rfl, ho1.mono hB0.size, by rw [HE.out]; exact HMS.out.under ((hB0.trans (hb1.mono hB0.size)).mono hBw) (Nat.le_refl _), hB0.trans (hb1.mono hB0.size)⟩
 ·have HE : Hid ((JV.mk tk tn ts tl tm).mem = []) := by show (if tk = 6 then tm else []) = []; rw [if_neg h6]
  have hq : (tk != 6) = true := by simpa using h6
  clear h6
  go_enter Tryz.func75, Tryz.ntmps75
  go_wp2_with fail
  go_ret
  exact ⟨none, 0, 0, [], rfl, Own.nil _ _ _, by rw [HE.out]; exact MemsOf.nil _ _, hB0⟩
theorem place_lt {t : JV} {name : ByteArray} {i : Nat} (h : t.place name = some i) : i < t.mem.length := by
 unfold JV.place at h
 rw [List.findIdx?_eq_some_iff_getElem] at h
 exact h.1
theorem VAt.set4 {W : World} {g : Nat} {r : RV} (h : VAt W g r) (p : Option Addr) (n c : Nat) : VAt (W.setCell ⟨g, 4, none⟩ (.slice p n c)) g { r with pm := p, nm := n, cm := c } := by
 unfold VAt at h ⊢
 simp [World.setCell, Array.getElem?_modify, h]
theorem with_any (t x : JV) (r q : RV) (name : ByteArray) (w : World) (B : Nat) (hBw : B <= w.heap.size) (ht : TreeOf w B t r) (ot : t.Ok) (hx : TreeOf w B x q) (hlen : t.mem.length <= 1466015503658) :
 Calls Tryz.prog 37 #[r.val, .string name, q.val] w (MapRet w B (putM (t.place name) t.mem name x)) := by
 obtain ⟨k, n, s, pl, nl, cl, pm, nm, cm⟩ := r
 obtain ⟨k2, n2, s2, pl2, nl2, cl2, pm2, nm2, cm2⟩ := q
 dsimp only [RV.val] at *
 have HT := Lib.hid ht
 have HO := Lib.hid ot
 have HX := Lib.hid hx
 have HL := Lib.hid hlen
 have hA0 : VAt (((w.alloc (.cells #[.int .i64 k, .int .i64 n, .string s, .slice pl nl cl, .slice pm nm cm] 25)).alloc (.cells #[.int .i64 k2, .int .i64 n2, .string s2, .slice pl2 nl2 cl2, .slice pm2 nm2 cm2] 25)).alloc (.cells #[.int .i64 0, .int .i64 0, .string ⟨#[]⟩, .slice none 0 0, .slice none 0 0] 25)) w.heap.size ⟨k, n, s, pl, nl, cl, pm, nm, cm⟩ := heap_alloc_lt (by simp; omega) (heap_alloc_lt (by simp) (heap_alloc_at rfl))
 have hA1 : VAt (((w.alloc (.cells #[.int .i64 k, .int .i64 n, .string s, .slice pl nl cl, .slice pm nm cm] 25)).alloc (.cells #[.int .i64 k2, .int .i64 n2, .string s2, .slice pl2 nl2 cl2, .slice pm2 nm2 cm2] 25)).alloc (.cells #[.int .i64 0, .int .i64 0, .string ⟨#[]⟩, .slice none 0 0, .slice none 0 0] 25)) (w.heap.size + 1) ⟨k2, n2, s2, pl2, nl2, cl2, pm2, nm2, cm2⟩ := heap_alloc_lt (by simp) (heap_alloc_at (by simp))
 have hA2 : VAt (((w.alloc (.cells #[.int .i64 k, .int .i64 n, .string s, .slice pl nl cl, .slice pm nm cm] 25)).alloc (.cells #[.int .i64 k2, .int .i64 n2, .string s2, .slice pl2 nl2 cl2, .slice pm2 nm2 cm2] 25)).alloc (.cells #[.int .i64 0, .int .i64 0, .string ⟨#[]⟩, .slice none 0 0, .slice none 0 0] 25)) (w.heap.size + 1 + 1) RV.zero := heap_alloc_at (by simp)
 have hB0 := (below2 w (.cells #[.int .i64 k, .int .i64 n, .string s, .slice pl nl cl, .slice pm nm cm] 25) (.cells #[.int .i64 k2, .int .i64 n2, .string s2, .slice pl2 nl2 cl2, .slice pm2 nm2 cm2] 25)).alloc (by simp; omega) (.cells #[.int .i64 0, .int .i64 0, .string ⟨#[]⟩, .slice none 0 0, .slice none 0 0] 25)
 clear ht ot hx hlen
 go_enter Tryz.func37, Tryz.ntmps37
 go_upto_region 1 with fail
 obtain ⟨W0, hW0⟩ : ∃ W0, (((w.alloc (.cells #[.int .i64 k, .int .i64 n, .string s, .slice pl nl cl, .slice pm nm cm] 25)).alloc (.cells #[.int .i64 k2, .int .i64 n2, .string s2, .slice pl2 nl2 cl2, .slice pm2 nm2 cm2] 25)).alloc (.cells #[.int .i64 0, .int .i64 0, .string ⟨#[]⟩, .slice none 0 0, .slice none 0 0] 25)) = W0 := ⟨_, rfl⟩
 rw [hW0] at hA0 hA1 hA2 hB0 ⊢
 clear hW0
 obtain ⟨p0, p1, p2, p3, p4⟩ := hA0.cells5
 have hzz : w.heap.size + 1 + 1 < W0.heap.size := hA2.lt
 go_upto_region 2 with (go_at_call 75; refine (members_any t ⟨k, n, s, pl, nl, cl, pm, nm, cm⟩ _ B (Nat.le_trans hBw hB0.size) (HT.out.under (hB0.mono hBw) (Nat.le_refl _)) HO.out).mono ?_; rintro e w1 ⟨pp, pn, pc, rms, rfl, ho1, hms1, hb1⟩)
 have hB1 : Below W0.heap.size W0 (w1.alloc (.cells #[.int .i64 6, .int .i64 0, .string ⟨#[]⟩, .slice none 0 0, .slice pp pn pc] 25)) := hb1.alloc hb1.size _
 have hA3 : VAt (w1.alloc (.cells #[.int .i64 6, .int .i64 0, .string ⟨#[]⟩, .slice none 0 0, .slice pp pn pc] 25)) w1.heap.size ⟨6, 0, ⟨#[]⟩, none, 0, 0, pp, pn, pc⟩ := heap_alloc_at rfl
 have ho2 := ho1.alloc (.cells #[.int .i64 6, .int .i64 0, .string ⟨#[]⟩, .slice none 0 0, .slice pp pn pc] 25)
 have hms2 : MemsOf (w1.alloc (.cells #[.int .i64 6, .int .i64 0, .string ⟨#[]⟩, .slice none 0 0, .slice pp pn pc] 25)) B t.mem rms := hms1.under ((Below.refl _ _).alloc (Nat.le_trans hBw (Nat.le_trans hB0.size hb1.size)) _) (Nat.le_refl _)
 have hp1 : ∀ g, (Value.slice pp pn pc).ownBlock = some g -> W0.heap.size <= g /\ g < w1.heap.size := ho1.lt
 obtain ⟨W1, hW1⟩ : ∃ W1, (w1.alloc (.cells #[.int .i64 6, .int .i64 0, .string ⟨#[]⟩, .slice none 0 0, .slice pp pn pc] 25)) = W1 := ⟨_, rfl⟩
 rw [hW1] at hB1 hA3 ho2 hms2 ⊢
 have hz1 : w1.heap.size < W1.heap.size := hA3.lt
 have hz0 : W0.heap.size <= w1.heap.size := hb1.size
 clear hW1 ho1 hms1 p0 p1 p2 p3 p4
 obtain ⟨p0, p1, p2, p3, p4⟩ := (hA0.under hB1 (by omega)).cells5
 go_upto_region 3 with (go_at_call 44; refine (place_any t ⟨k, n, s, pl, nl, cl, pm, nm, cm⟩ name _ (HT.out.under ((hB0.trans (hB1.mono hB0.size)).mono hBw) (Nat.le_trans hBw (hB0.trans (hB1.mono hB0.size)).size)) HO.out).mono ?_; rintro e w2 ⟨rfl, hb2⟩)
 clear p0 p1 p2 p3 p4
 have hB2 : Below W0.heap.size W0 w2 := hB1.trans (hb2.mono hB1.size)
 have HA1 := hA1.under hB2 (by omega)
 have HA2 := hA2.under hB2 (by omega)
 have HA3 := hA3.under hb2 hz1
 have ho3 := ho2.below hb2 (Nat.le_refl _)
 have HMS := Lib.hid (hms2.under (hb2.mono (by have := hB0.size; omega)) (Nat.le_refl _))
 have HX2 := Lib.hid (HX.out.under ((hB0.trans (hB2.mono hB0.size)).mono hBw) (Nat.le_refl _))
 clear hms2 ho2 hA0 hA1 hA2 hA3
 obtain ⟨p0, p1, p2, p3, p4⟩ := HA1.cells5
 obtain ⟨m0, m1, m2, m3, m4⟩ := HA3.cells5
 obtain ⟨z0, z1, z2, z3, z4⟩ := HA2.cells5
 dsimp only [RV.zero] at p0 p1 p2 p3 p4 m0 m1 m2 m3 m4 z0 z1 z2 z3 z4
 have y0 := HA2.frozen 0
 have y1 := HA2.frozen 1
 have y2 := HA2.frozen 2
 have y3 := HA2.frozen 3
 have y4 := HA2.frozen 4
 have x4 := HA3.frozen 4
 have HZ := Lib.hid HA2
 have HY := Lib.hid HA3
 clear HA1 HA2 HA3
 generalize hp : t.place name = o
 cases o with
 | some i =>
   have hi := place_lt hp
   have HP := Lib.hid hp
   have hir : i < rms.length := by rw [<- HMS.out.len]; exact hi
   obtain ⟨rm, hrm⟩ : ∃ rm, rms[i]? = some rm := ⟨_, List.getElem?_eq_getElem hir⟩
   obtain ⟨g, rfl, hpn, hg1, hg2, hcell, hfr⟩ := Own.at codecM ho3 hrm
   have hn : placeI (some i) = (i : Int) := rfl
   rw [hn]
   have hi0 : (0 : Int) <= (i : Int) := Int.natCast_nonneg _
   have hi1 : (i : Int) < (pn : Int) := by omega
   have e1 := hcell 1 _ rfl
   have e2 := hcell 2 _ rfl
   have e3 := hcell 3 _ rfl
   have e4 := hcell 4 _ rfl
   have e5 := hcell 5 _ rfl
   have k1 := hfr (i * 6 + 1)
   have k2' := hfr (i * 6 + 2)
   have k3 := hfr (i * 6 + 3)
   have k4 := hfr (i * 6 + 4)
   have k5 := hfr (i * 6 + 5)
   have HS := Lib.hid (Own.storedV ho3 hrm ⟨k2, n2, s2, pl2, nl2, cl2, pm2, nm2, cm2⟩)
   have hne : rm.name = name := by
    obtain ⟨p, h1, h2⟩ := getM hp
    rw [<- h2]
    exact (HMS.out.name i p rm h1 hrm).symm
   have HPUT := Lib.hid (HMS.out.set i (p := (name, x)) (q := ⟨rm.name, ⟨k2, n2, s2, pl2, nl2, cl2, pm2, nm2, cm2⟩⟩) hne.symm HX2.out)
   clear hn hp hcell hfr hpn hrm hne
   go_upto_region 5 with fail
   obtain ⟨w3, hw3⟩ : ∃ w3, ((((w2.setCell ⟨g, i * 6 + 1, none⟩ (.int .i64 k2)).setCell ⟨g, i * 6 + 1 + 1, none⟩ (.int .i64 n2)).setCell ⟨g, i * 6 + 1 + 2, none⟩ (.string s2)).setCell ⟨g, i * 6 + 1 + 3, none⟩ (.slice pl2 nl2 cl2)).setCell ⟨g, i * 6 + 1 + 4, none⟩ (.slice pm2 nm2 cm2) = w3 := ⟨_, rfl⟩
   have ho4 : Own w3 W0.heap.size 32 encM 6 (.slice (some ⟨g, 0, none⟩) pn pc) (rms.set i ⟨rm.name, ⟨k2, n2, s2, pl2, nl2, cl2, pm2, nm2, cm2⟩⟩) := by rw [<- hw3]; exact HS.out.1
   have hg4 : w2.grownBy w3 (some g) := by rw [<- hw3]; exact HS.out.2
   rw [hw3]
   clear hw3 HS e1 e2 e3 e4 e5 k1 k2' k3 k4 k5
   have hb4 : Below W0.heap.size w2 w3 := (Below.refl _ _).grown hg4 hB2.size (fun j e => by cases e; exact hg1)
   have hg7 : g ≠ w1.heap.size := by have := hp1 g rfl; omega
   have HZ4 : VAt w3 (w.heap.size + 1 + 1) RV.zero := HZ.out.under hb4 (by omega)
   have HY4 : VAt w3 w1.heap.size ⟨6, 0, ⟨#[]⟩, none, 0, 0, some ⟨g, 0, none⟩, pn, pc⟩ := (hg4.block _ (by have := hb2.size; omega) (fun h => hg7 (by cases h; rfl))).trans HY.out
   clear z0 z1 z2 z3 z4 m0 m1 m2 m3 m4 y0 y1 y2 y3 y4
   obtain ⟨m0, m1, m2, m3, m4⟩ := HY4.cells5
   obtain ⟨z0, z1, z2, z3, z4⟩ := HZ4.cells5
   dsimp only [RV.zero] at m0 m1 m2 m3 m4 z0 z1 z2 z3 z4
   have y0 := HZ4.frozen 0
   have y1 := HZ4.frozen 1
   have y2 := HZ4.frozen 2
   have y3 := HZ4.frozen 3
   have y4 := HZ4.frozen 4
   go_wp2_with fail
   have hB4 : Below w.heap.size w w3 := hB0.trans ((hB2.trans hb4).mono hB0.size)
   refine bodyPost_ret (v := RV.val ⟨6, 0, ⟨#[]⟩, none, 0, 0, some ⟨g, 0, none⟩, pn, pc⟩) (by simp [results, Tryz.results37, go_sem, z0, z1, z2, z3, z4]) rfl ⟨some ⟨g, 0, none⟩, pn, pc, rms.set i ⟨rm.name, ⟨k2, n2, s2, pl2, nl2, cl2, pm2, nm2, cm2⟩⟩, rfl, ?_, ?_, Below.stored hB4 (by omega) ⟨6, 0, ⟨#[]⟩, none, 0, 0, some ⟨g, 0, none⟩, pn, pc⟩⟩
   ·exact (ho4.mono hB0.size).kept (grownBy_set5 w3 (w.heap.size + 1 + 1) ⟨6, 0, ⟨#[]⟩, none, 0, 0, some ⟨g, 0, none⟩, pn, pc⟩) (.inr (by simp [Value.ownBlock]; omega))
   ·rw [HP.out]
    exact (HPUT.out.under (hb4.mono (Nat.le_trans hBw hB0.size)) (Nat.le_refl _)).under (Below.stored (Below.refl _ _) (by omega) ⟨6, 0, ⟨#[]⟩, none, 0, 0, some ⟨g, 0, none⟩, pn, pc⟩) (Nat.le_refl _)
 | none =>
   have HP := Lib.hid hp
   have hn : placeI (none : Option Nat) = -1 := rfl
   rw [hn]
   have hrl : rms.length = t.mem.length := HMS.out.len.symm
   have HRL := Lib.hid hrl
   have HW := Lib.hid hB2.size
   clear hn hp hrl
   have hL2 := HL.out
   have hne : ∀ g, (Value.slice pp pn pc).ownBlock = some g -> W0.heap.size <= g /\ g < w1.heap.size := hp1
   have HNE := Lib.hid hne
   have HYA : Hid (VAt (w2.alloc (.cells #[.string name, .int .i64 k2, .int .i64 n2, .string s2, .slice pl2 nl2 cl2, .slice pm2 nm2 cm2] 32)) w1.heap.size ⟨6, 0, ⟨#[]⟩, none, 0, 0, pp, pn, pc⟩) := heap_alloc_lt (by have := hb2.size; omega) HY.out
   have HZA : Hid (VAt (w2.alloc (.cells #[.string name, .int .i64 k2, .int .i64 n2, .string s2, .slice pl2 nl2 cl2, .slice pm2 nm2 cm2] 32)) (w.heap.size + 1 + 1) RV.zero) := heap_alloc_lt (by have := hb2.size; omega) HZ.out
   have hz2 := hb2.size
   clear hne hp1
   go_upto_region 7 with (at_builtin; refine wpList_append_rd slM codecM (w2.alloc (.cells #[.string name, .int .i64 k2, .int .i64 n2, .string s2, .slice pl2 nl2 cl2, .slice pm2 nm2 cm2] 32)) rfl (.tmp 25) (.tmp 29) rfl (v := .slice pp pn pc) rfl rfl (ho3.alloc _) (Rd.one (B := w2.heap.size + 1) (x := (⟨name, ⟨k2, n2, s2, pl2, nl2, cl2, pm2, nm2, cm2⟩⟩ : RM)) codecM (heap_alloc_new _ _) rfl (by omega)) (by have := HRL.out; simp; unfold maxLen; omega) (by have := HRL.out; simp; omega) (by have := HW.out; simp; omega) ?_; intro v3 w3 ho4 hg4 hat4; obtain ⟨p3, c3, hv3, hq1, hq2⟩ := ho4.len; rw [List.length_append, List.length_singleton] at hv3; subst hv3; clear hq1 hq2; (have HY3 : VAt w3 w1.heap.size ⟨6, 0, ⟨#[]⟩, none, 0, 0, pp, pn, pc⟩ := (hg4.block _ (by simp; omega) (fun h => by have := (HNE.out _ h.symm).2; omega)).trans HYA.out); (have m4' := HY3.cell 4 rfl); (have x4' := HY3.frozen 4); (have HY4 := Lib.hid (HY3.set4 p3 (rms.length + 1) c3)); clear HY3; go_frame)
   have hBo : Below W0.heap.size w2 w3 := Below.appended ((Below.refl _ _).alloc hB2.size _) hg4 (ho3.alloc _) (by have := HW.out; simp; omega)
   have HZ3 : VAt w3 (w.heap.size + 1 + 1) RV.zero := HZ.out.under hBo (by omega)
   have hlt3 := ho4.lt
   obtain ⟨w4, hw4⟩ : ∃ w4, w3.setCell ⟨w1.heap.size, 4, none⟩ (.slice p3 (rms.length + 1) c3) = w4 := ⟨_, rfl⟩
   have HY4' : VAt w4 w1.heap.size ⟨6, 0, ⟨#[]⟩, none, 0, 0, p3, rms.length + 1, c3⟩ := by rw [<- hw4]; exact HY4.out
   have hg5 : w3.grownBy w4 (some w1.heap.size) := by rw [<- hw4]; exact grownBy_set _ _ _ _
   rw [hw4]
   clear hw4 HY4 m4' x4'
   have hne5 : ∀ j, (Value.slice p3 (rms.length + 1) c3).ownBlock = some j -> j ≠ w1.heap.size := by
    intro j hj e
    subst e
    rcases hat4 with h | h
    ·rw [hj] at h
     have := (HNE.out _ h.symm).2
     omega
    ·rw [hj] at h
     simp at h
     omega
   have ho5 := ho4.kept hg5 (by
    cases hob : (Value.slice p3 (rms.length + 1) c3).ownBlock with
    | none => exact .inl rfl
    | some j => exact .inr (fun h => hne5 j hob (by injection h)))
   have hB5 : Below W0.heap.size w2 w4 := hBo.grown hg5 (by have := hBo.size; have := HW.out; omega) (fun j e => by cases e; exact hz0)
   have HZ5 : VAt w4 (w.heap.size + 1 + 1) RV.zero := HZ.out.under hB5 (by omega)
   clear z0 z1 z2 z3 z4 m0 m1 m2 m3 m4 y0 y1 y2 y3 y4 p0 p1 p2 p4 x4
   obtain ⟨m0, m1, m2, m3, m4⟩ := HY4'.cells5
   obtain ⟨z0, z1, z2, z3, z4⟩ := HZ5.cells5
   dsimp only [RV.zero] at m0 m1 m2 m3 m4 z0 z1 z2 z3 z4
   have y0 := HZ5.frozen 0
   have y1 := HZ5.frozen 1
   have y2 := HZ5.frozen 2
   have y3 := HZ5.frozen 3
   have y4 := HZ5.frozen 4
   have HO5 := Lib.hid ho5
   have HB4 : Hid (Below w.heap.size w w4) := hB0.trans ((hB2.trans hB5).mono hB0.size)
   have HPUT := Lib.hid ((HMS.out.snoc (p := (name, x)) (q := ⟨name, ⟨k2, n2, s2, pl2, nl2, cl2, pm2, nm2, cm2⟩⟩) rfl HX2.out).under (hB5.mono (Nat.le_trans hBw hB0.size)) (Nat.le_refl _))
   clear ho5 ho4 hne5 hg4 hat4 hg5 ho3 hlt3
   go_wp2_with fail
   refine bodyPost_ret (v := RV.val ⟨6, 0, ⟨#[]⟩, none, 0, 0, p3, rms.length + 1, c3⟩) (by simp [results, Tryz.results37, go_sem, z0, z1, z2, z3, z4]) rfl ⟨p3, rms.length + 1, c3, rms ++ [⟨name, ⟨k2, n2, s2, pl2, nl2, cl2, pm2, nm2, cm2⟩⟩], rfl, ?_, ?_, Below.stored HB4.out (by omega) ⟨6, 0, ⟨#[]⟩, none, 0, 0, p3, rms.length + 1, c3⟩⟩
   ·have hlt := HO5.out.lt
    refine (HO5.out.mono hB0.size).kept (grownBy_set5 w4 (w.heap.size + 1 + 1) ⟨6, 0, ⟨#[]⟩, none, 0, 0, p3, rms.length + 1, c3⟩) ?_
    cases hob : (Value.slice p3 (rms.length + 1) c3).ownBlock with
    | none => exact .inl rfl
    | some j =>
      refine .inr (fun h => ?_)
      have := (hlt j hob).1
      injection h with h
      omega
   ·rw [HP.out]
    exact HPUT.out.under (Below.stored (Below.refl _ _) (by omega) ⟨6, 0, ⟨#[]⟩, none, 0, 0, p3, rms.length + 1, c3⟩) (Nat.le_refl _)
def KB (B : Nat) (W w : World) : Prop := Below B W w /\ ∀ b o, b < B -> w.cell? ⟨b, o, none⟩ = W.cell? ⟨b, o, none⟩
theorem KB.mk {B : Nat} {W w : World} (h : Below B W w) : KB B W w := ⟨h, fun b o hb => h.cell (p := ⟨b, o, none⟩) hb⟩
theorem KB.fin {b B : Nat} {w W w' : World} (hk : KB B W w') (h : Below b w W) (hb : b <= B) : Below b w w' := h.trans (hk.1.mono hb)
theorem KB.refl (W : World) : KB W.heap.size W W := KB.mk (Below.refl _ _)
theorem KB.step {W w w' : World} (hk : KB W.heap.size W w) (h : Below w.heap.size w w') : KB W.heap.size W w' := KB.mk (hk.1.trans (h.mono hk.1.size))
theorem KB.drew (W : World) : KB W.heap.size W W.drew := KB.mk (Below.refl _ _).drew
abbrev RV.obj (r : RV) : Obj := .cells #[.int .i64 r.k, .int .i64 r.n, .string r.s, .slice r.pl r.nl r.cl, .slice r.pm r.nm r.cm] 25
structure Ctx (b : Nat) (w0 W : World) (L : List (Nat × RV)) (T : List (JV × RV)) : Prop where
 below : Below b w0 W
 le : b <= W.heap.size
 loc : ∀ (i g : Nat) (r : RV), L[i]? = some (g, r) -> g < W.heap.size /\ VAt W g r
 tree : ∀ (i : Nat) (t : JV) (r : RV), T[i]? = some (t, r) -> TreeOf W W.heap.size t r
theorem Ctx.nil (w : World) : Ctx w.heap.size w w [] [] := ⟨Below.refl _ _, Nat.le_refl _, fun i g r h => by simp at h, fun i t r h => by simp at h⟩
section
variable {b : Nat} {w0 W w : World} {L : List (Nat × RV)} {T : List (JV × RV)} (h : Ctx b w0 W L T)
include h
theorem Ctx.go (hb : Below W.heap.size W w) : Ctx b w0 w L T :=
 ⟨h.below.trans (hb.mono h.le), Nat.le_trans h.le hb.size, fun i g r hi => ⟨Nat.lt_of_lt_of_le (h.loc i g r hi).1 hb.size, (h.loc i g r hi).2.under hb (h.loc i g r hi).1⟩, fun i t r hi => (h.tree i t r hi).under hb hb.size⟩
theorem Ctx.alloc (x : RV) : Ctx b w0 (W.alloc x.obj) ((W.heap.size, x) :: L) T := by
 have g := h.go ((Below.refl _ _).alloc (Nat.le_refl _) x.obj)
 refine ⟨g.below, g.le, fun i k r hi => ?_, g.tree⟩
 cases i with
 | zero =>
   cases hi
   exact ⟨by simp, heap_alloc_at rfl⟩
 | succ i => exact g.loc i k r hi
theorem Ctx.know {t : JV} {x : RV} (hx : TreeOf W W.heap.size t x) : Ctx b w0 W L ((t, x) :: T) := by
 refine ⟨h.below, h.le, h.loc, fun i u r hi => ?_⟩
 cases i with
 | zero => cases hi; exact hx
 | succ i => exact h.tree i u r hi
theorem Ctx.box (hk : KB W.heap.size W w) {t : JV} {x : RV} (hx : TreeOf w w.heap.size t x) : Ctx b w0 (w.alloc x.obj) ((w.heap.size, x) :: L) ((t, x) :: T) :=
 ((h.go hk.1).know hx).alloc x
theorem Ctx.tk (hk : KB W.heap.size W w) (i : Nat) {t : JV} {r : RV} (hi : T[i]? = some (t, r)) : TreeOf w w.heap.size t r := (h.tree i t r hi).under hk.1 hk.1.size
theorem Ctx.lt (i : Nat) {g : Nat} {r : RV} (hi : L[i]? = some (g, r)) : g < W.heap.size := (h.loc i g r hi).1
theorem Ctx.at (i : Nat) {g : Nat} {r : RV} (hi : L[i]? = some (g, r)) : VAt W g r := (h.loc i g r hi).2
theorem Ctx.fin (hk : KB W.heap.size W w) : Below b w0 w := h.below.trans (hk.1.mono h.le)
end
end
end Go.Proofs.YtffhccmppdgmfaaGreatDoor
