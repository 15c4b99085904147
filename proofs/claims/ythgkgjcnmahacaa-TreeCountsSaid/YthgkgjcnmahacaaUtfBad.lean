/- The first place at which no point stands, walked. -/
import Derived.Test.YthgkgjcnmahacaaUtf
set_option linter.unusedSimpArgs false
set_option linter.unusedVariables false
namespace Go.Proofs.Ythgkgjcnmahacaa
open Go Go.RowKit

/-- Where reading points from a place on ends. -/
def badU (s : ByteArray) : Nat → Nat → Nat
  | 0, a => a
  | f + 1, a => if a < s.size ∧ (oneU s a).2 ≠ 0 then badU s f (a + (oneU s a).2) else a
def badF (s : ByteArray) : Nat := badU s s.size 0
theorem badU_le (s : ByteArray) : ∀ f a, a ≤ s.size → badU s f a ≤ s.size
  | 0, a, h => h
  | f + 1, a, h => by
    unfold badU
    split
    · exact badU_le s f _ (oneU_le s a h).1
    · exact h
theorem badF_le (s : ByteArray) : badF s ≤ s.size := badU_le s _ _ (Nat.zero_le _)
theorem badU_yes {s : ByteArray} {f a n : Nat} {p : Int} (ha : a < s.size) (ho : oneU s a = (p, n)) (hn : n ≠ 0) : badU s (f + 1) a = badU s f (a + n) := by
  rw [badU, if_pos ⟨ha, by rw [ho]; exact hn⟩, ho]
theorem badU_no {s : ByteArray} {f a : Nat} {p : Int} (ho : oneU s a = (p, 0)) : badU s f a = a := by
  cases f with
  | zero => rfl
  | succ f => rw [badU, if_neg (by rw [ho]; simp)]
theorem badU_end {s : ByteArray} {f : Nat} : badU s f s.size = s.size := by
  cases f with
  | zero => rfl
  | succ f => rw [badU, if_neg (by simp)]
theorem ret_int1 {k : IntKind} {a b : Int} (h : a = b) : Ending.returned (.int k a) = .returned (.int k b) := by rw [h]

set_option maxRecDepth 100000 in
set_option maxHeartbeats 2000000 in
theorem bad_any (s : ByteArray) (w : World) (hs : s.size ≤ maxLen) :
    Calls Try.prog 111 #[.string s] w fun e w' => e = .returned (.int .i64 (badF s : Nat)) ∧ w = w' := by
  have HS := Lib.hid hs
  unfold maxLen at hs
  go_enter Try.func111, Try.ntmps111
  go_wp2_with fail
  go_loop [3] (fun av => ∃ (a f : Nat), a ≤ s.size ∧ s.size ≤ a + f ∧ av = .int .i64 a ∧ Hid (badU s f a = badF s)) (fun av => s.size - (intOf av).toNat)
  case atStart => exact ⟨0, s.size, Nat.zero_le _, by omega, rfl, rfl⟩
  case round =>
    obtain ⟨a, f, ha, hf, rfl, hb⟩ := hrel
    by_cases hlt : a < s.size
    · have HC : Hid (∀ w : World, Calls Try.prog 133 #[.string s, .int .i64 a] w fun e w' => e = .returned (.tuple #[.int .i32 (oneU s a).1, .int .i64 (oneU s a).2]) ∧ w = w') := fun w => one_any s a w HS.out hlt
      have hle := oneU_le s a ha
      obtain ⟨f, rfl⟩ : ∃ f', f = f' + 1 := ⟨f - 1, by omega⟩
      unfold Hid at HC
      generalize ho : oneU s a = o at HC hle
      obtain ⟨p, n⟩ := o
      dsimp only at HC hle
      have HC := Lib.hid HC
      by_cases h0 : n = 0
      · subst h0
        have HR : Hid (a = badF s) := by have h := hb.out; rw [badU_no ho] at h; exact h
        clear ho
        go_wp2_with (go_at_call 133; refine (HC.out _).mono ?_; rintro e w' ⟨rfl, rfl⟩)
        go_ret
        exact ⟨ret_int1 (by rw [← HR.out]), rfl⟩
      · have HR : Hid (badU s f (a + n) = badF s) := by have h := hb.out; rw [badU_yes hlt ho h0] at h; exact h
        have q0 : ((n : Int) == 0) = false := by simp; omega
        clear ho
        go_wp2_with (go_at_call 133; refine (HC.out _).mono ?_; rintro e w' ⟨rfl, rfl⟩)
        exact ⟨⟨a + n, f, hle.1, by omega, by go_num, HR⟩, by simp [intOf]; omega⟩
    · obtain rfl : a = s.size := by omega
      have HR : Hid (s.size = badF s) := by have h := hb.out; rw [badU_end] at h; exact h
      go_wp2_with fail
      go_ret
      exact ⟨ret_int1 (by rw [← HR.out]), rfl⟩
end Go.Proofs.Ythgkgjcnmahacaa
