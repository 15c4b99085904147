import Derived.Test.YtanemojiaahbgaaGreatDoorSf20
import Derived.Test.YtanemojiaahbgaaGreatDoorSf04
import Derived.Deep.RegionHeld3
import Derived.Test.YtanemojiaahbgaaGreatDoorSf07
import Derived.Test.YtanemojiaahbgaaGreatDoorSf00
import Derived.Test.YtanemojiaahbgaaGreatDoorSf03
import Derived.Test.YtanemojiaahbgaaGreatDoorSf06
section
/- A state's text: ident.letter, ident.may, ident.State; walked. -/
set_option linter.unusedSimpArgs false
set_option linter.unusedVariables false
namespace Go.Proofs.YtanemojiaahbgaaGreatDoor
open Go Go.RowKit Go.OpenShut

def safeN : Int := 9007199254740991
/-- The text of a state (of the first kind, else of the second). -/
def stateB (card : Bool) (n : Int) : ByteArray := if decide (0 ≤ n) && decide (n ≤ safeN) then toB ((if card then 99 else 98) :: numL n) else ⟨#[]⟩
def kindI (card : Bool) : Int := if card then 1 else 2
theorem letterI_any (card : Bool) (w : World) : Calls Tryz.prog 60 #[.int .i64 (kindI card)] w fun e w' => e = .returned (.tuple #[.int .u8 (if card then 67 else 66), .int .u8 (if card then 99 else 98)]) ∧ w' = w := by
  cases card
  · show Calls Tryz.prog 60 #[.int .i64 2] w _
    go_enter Tryz.func60, Tryz.ntmps60
    go_wp2_with fail
    go_ret2
    exact ⟨rfl, rfl⟩
  · show Calls Tryz.prog 60 #[.int .i64 1] w _
    go_enter Tryz.func60, Tryz.ntmps60
    go_wp2_with fail
    go_ret2
    exact ⟨rfl, rfl⟩
set_option maxRecDepth 100000 in
theorem mayI_any (card : Bool) (n : Int) (w : World) : Calls Tryz.prog 59 #[.int .i64 (kindI card), .int .i64 n] w fun e w' => e = .returned (.bool (decide (0 ≤ n) && decide (n ≤ safeN))) ∧ w' = w := by
  have HL : Hid (∀ W, Calls Tryz.prog 60 #[.int .i64 (kindI card)] W fun e w' => e = .returned (.tuple #[.int .u8 (if card then 67 else 66), .int .u8 (if card then 99 else 98)]) ∧ w' = W) := fun W => letterI_any card W
  obtain ⟨k, hk⟩ : ∃ k, kindI card = k := ⟨_, rfl⟩
  rw [hk] at HL ⊢
  clear hk
  unfold safeN
  by_cases h0 : 0 ≤ n <;> by_cases h1 : n ≤ 9007199254740991 <;> cases card
  all_goals
    simp only [Bool.false_eq_true, if_false, if_true] at HL
    first
      | (have q0 : decide (0 ≤ n) = true := decide_eq_true h0)
      | (have q0 : decide (0 ≤ n) = false := decide_eq_false h0)
    first
      | (have q1 : decide (n ≤ 9007199254740991) = true := decide_eq_true h1)
      | (have q1 : decide (n ≤ 9007199254740991) = false := decide_eq_false h1)
    rw [q0, q1]
    go_enter Tryz.func59, Tryz.ntmps59
    go_wp2_with (go_at_call 60; refine (HL.out _).mono ?_; rintro e w1 ⟨rfl, rfl⟩)
    go_ret
    exact ⟨ret_boolI (by simp), rfl⟩
theorem str_oneB (W : World) (b : Nat) (x : UInt8) (h : W.cell? ⟨b, 0, none⟩ = some (.int .u8 x.toNat)) : (convert 87 9 (.slice (some ⟨b, 0, none⟩) 1 1)).run Tryz.prog W = .ok (.string (toB [x])) W := by
  refine run_convert_bytes_back W _ _ _ _ 1 [x] Tryz.underlying87 Tryz.underlying5 Tryz.underlying9 (fun j hj => ?_)
  have : j = 0 := by simp at hj; omega
  subst this
  rw [add_eq]
  exact h
theorem toB_app (a b : List UInt8) : toB a ++ toB b = toB (a ++ b) := by
  apply ByteArray.ext
  simp [toB]
set_option maxRecDepth 100000 in
set_option maxHeartbeats 1000000 in
theorem stateI_any (card : Bool) (n : Int) (w : World) (hn : (Lit.int .i64 n).wf = true) : Calls Tryz.prog 29 #[.int .i64 (kindI card), .int .i64 n] w fun e w' => e = .returned (.string (stateB card n)) ∧ Below w.heap.size w w' := by
  have HM : Hid (∀ W, Calls Tryz.prog 59 #[.int .i64 (kindI card), .int .i64 n] W fun e w' => e = .returned (.bool (decide (0 ≤ n) && decide (n ≤ safeN))) ∧ w' = W) := fun W => mayI_any card n W
  have HL : Hid (∀ W, Calls Tryz.prog 60 #[.int .i64 (kindI card)] W fun e w' => e = .returned (.tuple #[.int .u8 (if card then 67 else 66), .int .u8 (if card then 99 else 98)]) ∧ w' = W) := fun W => letterI_any card W
  have HP : Hid (∀ W, Calls Tryz.prog 61 #[.int .i64 n] W (PutRet W n)) := fun W => put_any3 n W hn
  unfold stateB
  obtain ⟨k, hk⟩ : ∃ k, kindI card = k := ⟨_, rfl⟩
  obtain ⟨b, hb⟩ : ∃ b, (decide (0 ≤ n) && decide (n ≤ safeN)) = b := ⟨_, rfl⟩
  rw [hk, hb] at HM
  rw [hk] at HL
  rw [hb, hk]
  clear hk hb
  cases b
  · go_enter Tryz.func29, Tryz.ntmps29
    go_wp2_with (go_at_call 59; refine (HM.out _).mono ?_; rintro e w1 ⟨rfl, rfl⟩)
    go_ret
    exact ⟨rfl, Below.refl _ _⟩
  · have HX : Hid (∀ c : UInt8, toB (c :: numL n) = toB [c] ++ toB (numL n)) := fun c => by rw [toB_app]; rfl
    have hXs : (toB (numL n)).size ≤ 20 := by rw [toB_size]; exact numL_len hn
    have HPX : Hid (∀ W, Calls Tryz.prog 61 #[.int .i64 n] W fun e w' => e = .returned (.string (toB (numL n))) ∧ Below W.heap.size W w') := HP
    obtain ⟨X, hX⟩ : ∃ X, toB (numL n) = X := ⟨_, rfl⟩
    rw [hX] at hXs HPX
    have HX : Hid (∀ c : UInt8, toB (c :: numL n) = toB [c] ++ X) := fun c => by rw [HX.out, hX]
    clear hX HP
    cases card
    · simp only [Bool.false_eq_true, if_false, if_true] at HL ⊢
      rw [HX.out]
      have hcv : ∀ W b, W.cell? ⟨b, 0, none⟩ = some (.int .u8 98) → (convert 87 9 (.slice (some ⟨b, 0, none⟩) 1 1)).run Tryz.prog W = .ok (.string (toB [98])) W := fun W b h => str_oneB W b 98 h
      have h1s : (toB [98]).size = 1 := rfl
      obtain ⟨Y, hY⟩ : ∃ Y, toB [98] = Y := ⟨_, rfl⟩
      rw [hY] at hcv h1s ⊢
      have hys : Y.size + X.size ≤ 21 := by omega
      have hys1 : Y.size ≤ 1 := by omega
      have hys2 : ¬ (281474976710656 < Y.size + X.size) := by omega
      clear hY h1s
      go_enter Tryz.func29, Tryz.ntmps29
      go_wp2_with (first
        | (go_at_call 59; refine (HM.out _).mono ?_; rintro e w1 ⟨rfl, rfl⟩)
        | (go_at_call 60; refine (HL.out _).mono ?_; rintro e w1 ⟨rfl, rfl⟩))
      have hcell : (w1.alloc (.cells #[.int .u8 98] 5)).drew.cell? ⟨w1.heap.size, 0, none⟩ = some (.int .u8 98) := by show (w1.alloc (.cells #[.int .u8 98] 5)).cell? _ = _; rw [cell_of_row (w1.alloc (.cells #[.int .u8 98] 5)) w1.heap.size 0 _ _ _ (heap_alloc_at rfl)]; rfl
      have HPA : Hid (Calls Tryz.prog 61 #[.int .i64 n] (w1.alloc (.cells #[.int .u8 98] 5)).drew fun e w' => e = .returned (.string X) ∧ Below w1.heap.size w1 w' ∧ (convert 87 9 (.slice (some ⟨w1.heap.size, 0, none⟩) 1 1)).run Tryz.prog w' = .ok (.string Y) w') :=
        (HPX.out _).mono (fun e w' h => ⟨h.1, ((Below.refl _ _).alloc (Nat.le_refl _) (.cells #[.int .u8 98] 5)).drew.trans (h.2.mono (by show w1.heap.size ≤ (w1.alloc _).heap.size; simp)), hcv w' _ (bcs h.2 (by show w1.heap.size < (w1.alloc _).heap.size; simp) hcell)⟩)
      clear hcell
      have HPB : Hid (∀ W, Below w1.heap.size w1 W → Calls Tryz.prog 61 #[.int .i64 n] W fun e w' => e = .returned (.string X) ∧ Below w1.heap.size w1 w') := fun W hb => (HPX.out W).mono (fun e w' h => ⟨h.1, hb.trans (h.2.mono hb.size)⟩)
      go_region_with
        (first
          | (go_at_call 61; ((with_reducible refine HPA.out.mono ?_); rintro e w3 ⟨rfl, hb3, hcx⟩))
          | (go_at_call 61; refine (HPB.out _ (by first | exact (Below.refl _ _).drew | exact ((Below.refl _ _).alloc (Nat.le_refl _) _).drew)).mono ?_; rintro e w3 ⟨rfl, hb3⟩)
          | fail)
      all_goals
        go_wp2_with fail
        go_ret
        first
          | exact ⟨rfl, hb3⟩
          | exact ⟨rfl, hb3.alloc hb3.size _⟩
          | exact ⟨rfl, hb3.drew.alloc hb3.size _⟩
          | exact ⟨rfl, (hb3.alloc hb3.size _).drew⟩
    · simp only [Bool.false_eq_true, if_false, if_true] at HL ⊢
      rw [HX.out]
      have hcv : ∀ W b, W.cell? ⟨b, 0, none⟩ = some (.int .u8 99) → (convert 87 9 (.slice (some ⟨b, 0, none⟩) 1 1)).run Tryz.prog W = .ok (.string (toB [99])) W := fun W b h => str_oneB W b 99 h
      have h1s : (toB [99]).size = 1 := rfl
      obtain ⟨Y, hY⟩ : ∃ Y, toB [99] = Y := ⟨_, rfl⟩
      rw [hY] at hcv h1s ⊢
      have hys : Y.size + X.size ≤ 21 := by omega
      have hys1 : Y.size ≤ 1 := by omega
      have hys2 : ¬ (281474976710656 < Y.size + X.size) := by omega
      clear hY h1s
      go_enter Tryz.func29, Tryz.ntmps29
      go_wp2_with (first
        | (go_at_call 59; refine (HM.out _).mono ?_; rintro e w1 ⟨rfl, rfl⟩)
        | (go_at_call 60; refine (HL.out _).mono ?_; rintro e w1 ⟨rfl, rfl⟩))
      have hcell : (w1.alloc (.cells #[.int .u8 99] 5)).drew.cell? ⟨w1.heap.size, 0, none⟩ = some (.int .u8 99) := by show (w1.alloc (.cells #[.int .u8 99] 5)).cell? _ = _; rw [cell_of_row (w1.alloc (.cells #[.int .u8 99] 5)) w1.heap.size 0 _ _ _ (heap_alloc_at rfl)]; rfl
      have HPA : Hid (Calls Tryz.prog 61 #[.int .i64 n] (w1.alloc (.cells #[.int .u8 99] 5)).drew fun e w' => e = .returned (.string X) ∧ Below w1.heap.size w1 w' ∧ (convert 87 9 (.slice (some ⟨w1.heap.size, 0, none⟩) 1 1)).run Tryz.prog w' = .ok (.string Y) w') :=
        (HPX.out _).mono (fun e w' h => ⟨h.1, ((Below.refl _ _).alloc (Nat.le_refl _) (.cells #[.int .u8 99] 5)).drew.trans (h.2.mono (by show w1.heap.size ≤ (w1.alloc _).heap.size; simp)), hcv w' _ (bcs h.2 (by show w1.heap.size < (w1.alloc _).heap.size; simp) hcell)⟩)
      clear hcell
      have HPB : Hid (∀ W, Below w1.heap.size w1 W → Calls Tryz.prog 61 #[.int .i64 n] W fun e w' => e = .returned (.string X) ∧ Below w1.heap.size w1 w') := fun W hb => (HPX.out W).mono (fun e w' h => ⟨h.1, hb.trans (h.2.mono hb.size)⟩)
      go_region_with
        (first
          | (go_at_call 61; ((with_reducible refine HPA.out.mono ?_); rintro e w3 ⟨rfl, hb3, hcx⟩))
          | (go_at_call 61; refine (HPB.out _ (by first | exact (Below.refl _ _).drew | exact ((Below.refl _ _).alloc (Nat.le_refl _) _).drew)).mono ?_; rintro e w3 ⟨rfl, hb3⟩)
          | fail)
      all_goals
        go_wp2_with fail
        go_ret
        first
          | exact ⟨rfl, hb3⟩
          | exact ⟨rfl, hb3.alloc hb3.size _⟩
          | exact ⟨rfl, hb3.drew.alloc hb3.size _⟩
          | exact ⟨rfl, (hb3.alloc hb3.size _).drew⟩
end Go.Proofs.YtanemojiaahbgaaGreatDoor
end

section
/- chars.Read at a plain text between quotes, walked. -/
set_option linter.unusedSimpArgs false
set_option linter.unusedVariables false
namespace Go.Proofs.YtanemojiaahbgaaGreatDoor
open Go Go.RowKit Go.OpenShut

theorem okCh_iff {c : UInt8} (h : okCh c = true) : 32 ≤ c.toNat ∧ c.toNat < 128 ∧ c.toNat ≠ 34 ∧ c.toNat ≠ 92 := by
  unfold okCh at h
  simp only [Bool.and_eq_true, decide_eq_true_eq] at h
  exact ⟨h.1.1.1, h.1.1.2, h.1.2, h.2⟩
theorem one_ascii {s : ByteArray} {i : Nat} (hi : i < s.size) (h : s[i]!.toNat < 128) : (oneU s i).2 = 1 := by
  rw [get_bang s i hi] at h
  have hz : szN s[i].toNat = 1 := by unfold szN; rw [if_pos h]
  rw [oneU_at hi, hz, if_neg (by omega)]
  rfl
theorem cut_step {s : ByteArray} {a k : Nat} (h1 : a ≤ k) (h2 : k < s.size) : (s.data.toList.drop a).take (k + 1 - a) = (s.data.toList.drop a).take (k - a) ++ [s[k]!] := by
  rw [show k + 1 - a = (k - a) + 1 by omega, List.take_add_one]
  congr 1
  rw [List.getElem?_drop, show a + (k - a) = k by omega, List.getElem?_eq_getElem (by rw [Array.length_toList]; exact h2), get_bang s k h2]
  rfl

theorem ext_list (s : ByteArray) (a b : Nat) : (s.extract a b).data.toList = (s.data.toList.drop a).take (b - a) := by
  rw [ByteArray.data_extract, Array.toList_extract]
theorem ext_one {s : ByteArray} {k : Nat} (h : k < s.size) : (s.extract k (k + 1)).data.toList = [s[k]!] := by
  have h1 := cut_step (s := s) (a := k) (k := k) (Nat.le_refl _) h
  rw [ext_list, h1, Nat.sub_self]
  rfl
set_option maxRecDepth 100000 in
set_option maxHeartbeats 4000000 in
theorem cread_plain (s : ByteArray) (i j : Nat) (w : World) (hs : s.size ≤ 65536) (hij : i < j) (hj : j < s.size) (h0 : s[i]!.toNat = 34) (hm : ∀ k, i < k → k < j → okCh s[k]! = true) (h1 : s[j]!.toNat = 34) :
    Calls Tryz.prog 84 #[.string s, .int .i64 i] w fun e w' => e = .returned (.tuple #[.string (cutB s (i + 1) j), .int .i64 ((j : Int) + 1), .int .i64 0]) ∧ Below w.heap.size w w' := by
  have hi : i < s.size := by omega
  rw [get_bang s i hi] at h0
  have HM : Hid (∀ k, i < k → k < j → okCh s[k]! = true) := hm
  have HJ : Hid (s[j]!.toNat = 34) := h1
  have HIJ : Hid (i < j ∧ j < s.size ∧ s.size ≤ 65536) := ⟨hij, hj, hs⟩
  have a0 : (0 : Int) ≤ (i : Int) := Int.natCast_nonneg _
  have a1 : (i : Int) < (s.size : Int) := by omega
  have a2 : i < 4398046510976 := by omega
  have q1 : decide ((i : Int) < 0) = false := by simp
  have q2 : decide (s.size ≤ i) = false := by simp; omega
  clear hm h1
  go_enter Tryz.func84, Tryz.ntmps84
  go_wp2_with fail
  go_loopw [7, 8] (fun v o wr => ∃ k : Nat, i + 1 ≤ k ∧ k ≤ j ∧ o = .int .i64 (k : Int) ∧ Hid (OwnU wr w.heap.size v ((s.data.toList.drop (i + 1)).take (k - (i + 1))) ∧ Below w.heap.size w wr)) (fun _ o _ => j - (intOf o).toNat)
  case atStart => exact ⟨i + 1, Nat.le_refl _, by omega, by go_num, by rw [Nat.sub_self]; exact Own.nil _ _ _, Below.refl _ _⟩
  case round =>
    obtain ⟨k, hk1, hk2, rfl, hown⟩ := hrel
    have b0 : (0 : Int) ≤ (k : Int) := Int.natCast_nonneg _
    have b1 : (k : Int) < (s.size : Int) := by omega
    have b2 : k < s.size := by omega
    by_cases hkj : k = j
    · subst hkj
      have hc := HJ.out
      rw [get_bang s k b2] at hc
      have e1 : (((s[k].toNat : Nat) : Int) == 34) = true := by simp; omega
      have hst := str_of_own hown.out.1
      clear hc
      go_wp2_with fail
      go_ret3
      exact ⟨rfl, hown.out.2⟩
    · have hok := okCh_iff (HM.out k (by omega) (by omega))
      rw [get_bang s k b2] at hok
      have e1 : (((s[k].toNat : Nat) : Int) == 34) = false := by simp; omega
      have e2 : decide (((s[k].toNat : Nat) : Int) < 32) = false := by simp; omega
      have e3 : (((s[k].toNat : Nat) : Int) == 92) = false := by simp; omega
      have h1 := one_ascii b2 (by rw [get_bang s k b2]; omega)
      have HON := Lib.hid (one_any s k wr (by unfold maxLen; omega) b2)
      rw [h1] at HON
      clear hok h1
      go_wp2_with fail
      refine HON.out.mono ?_
      rintro e w2 ⟨rfl, rfl⟩
      have HL : Hid (((s.data.toList.drop (i + 1)).take (k - (i + 1))).length + (s.extract k (k + 1)).size ≤ 140737488355328) := by
        unfold Hid
        rw [List.length_take, ← str_len (s.extract k (k + 1)), ext_one b2, List.length_singleton]
        have h1 : (s.data.toList.drop (i + 1)).length ≤ s.size := by rw [List.length_drop, str_len]; omega
        omega
      go_wp2_with (at_builtin; refine wpList_append_str _ rfl _ _ rfl rfl rfl hown.out.1 HL.out hown.out.2.size ?_; intro v3 w3 ho3 hg3)
      rw [ext_one b2, ← cut_step (by omega) b2] at ho3
      go_roundw
      case rel => exact ⟨k + 1, by omega, by omega, by go_num, ho3, Below.appended hown.out.2 hg3 hown.out.1 hown.out.2.size⟩
      case measure => simp [intOf]; omega
end Go.Proofs.YtanemojiaahbgaaGreatDoor
end
