import Derived.Test.YtanemojiaahbgaaGreatDoorSf21
import Derived.Deep.RegionHeld3
section
/- ref03.Put: a whole number in digits; walked. -/
set_option linter.unusedSimpArgs false
set_option linter.unusedVariables false
namespace Go.Proofs.YtanemojiaahbgaaGreatDoor
open Go Go.RowKit Go.OpenShut

theorem numL_low {n : Int} (h0 : 0 ≤ n) (h1 : n < 10) : numL n = [UInt8.ofNat (48 + n.toNat)] := by
  unfold numL
  rw [if_neg (by omega), natD, if_pos (by omega)]
  have : n.natAbs = n.toNat := by omega
  rw [this]; rfl
theorem numL_lowNeg {n : Int} (h0 : n < 0) (h1 : -10 < n) : numL n = [45, UInt8.ofNat (48 + (-n).toNat)] := by
  unfold numL
  rw [if_pos h0, natD, if_pos (by omega)]
  have : n.natAbs = (-n).toNat := by omega
  rw [this]; rfl
theorem numL_pos {n : Int} (h : 10 ≤ n) : numL n = numL (n.tdiv 10) ++ [UInt8.ofNat (48 + (n.tmod 10).toNat)] := by
  obtain ⟨m, rfl⟩ := Int.eq_ofNat_of_zero_le (show 0 ≤ n by omega)
  have e1 : (m : Int).tdiv 10 = ((m / 10 : Nat) : Int) := rfl
  have e2 : (m : Int).tmod 10 = ((m % 10 : Nat) : Int) := rfl
  rw [e1, e2]
  unfold numL
  rw [if_neg (by omega), if_neg (by omega)]
  simp only [List.nil_append, Int.natAbs_natCast, Int.toNat_natCast]
  exact natD_high (by omega)
theorem numL_neg {n : Int} (h : n ≤ -10) : numL n = numL (n.tdiv 10) ++ [UInt8.ofNat (48 + (0 - n.tmod 10).toNat)] := by
  obtain ⟨m, hm⟩ := Int.eq_ofNat_of_zero_le (show 0 ≤ -n by omega)
  obtain rfl : n = -(m : Int) := by omega
  have e1 : (-(m : Int)).tdiv 10 = -((m / 10 : Nat) : Int) := by rw [Int.neg_tdiv]; rfl
  have e2 : (-(m : Int)).tmod 10 = -((m % 10 : Nat) : Int) := by rw [Int.neg_tmod]; rfl
  rw [e1, e2]
  unfold numL
  rw [if_pos (by omega), if_pos (by omega)]
  have e3 : (0 - -((m % 10 : Nat) : Int)).toNat = m % 10 := by omega
  rw [e3]
  simp only [Int.natAbs_neg, Int.natAbs_natCast, List.append_assoc]
  rw [natD_high (by omega)]

theorem cell_u8 {W : World} {a : Addr} {i : Int} (c : Nat) (hc : c < 256) (e : (c : Int) = i) (h : W.cell? a = some (.int .u8 i)) : W.cell? a = some (.int .u8 (UInt8.ofNat c).toNat) := by
  rw [h, ← e]
  simp only [UInt8.toNat_ofNat', Nat.reducePow]
  rw [Nat.mod_eq_of_lt hc]
theorem str_two (W : World) (b : Nat) (x y : UInt8) (h : W.cell? ⟨b, 0, none⟩ = some (.int .u8 x.toNat)) (h2 : W.cell? ⟨b, 1, none⟩ = some (.int .u8 y.toNat)) : (convert 87 9 (.slice (some ⟨b, 0, none⟩) 2 2)).run Tryz.prog W = .ok (.string (toB [x, y])) W := by
  refine run_convert_bytes_back W _ _ _ _ 2 [x, y] Tryz.underlying87 Tryz.underlying5 Tryz.underlying9 (fun j hj => ?_)
  have : j = 0 ∨ j = 1 := by simp at hj; omega
  rcases this with rfl | rfl
  · rw [add_eq]
    exact h
  · rw [add_eq]
    exact h2

def Put3Ret (w : World) (n : Int) (e : Ending) (w' : World) : Prop := e = .returned (.string (toB (numL n))) ∧ Below w.heap.size w w'
set_option maxRecDepth 100000 in
set_option maxHeartbeats 1000000 in
theorem put3_low (n : Int) (h0 : 0 ≤ n) (h1 : n < 10) (w : World) : Calls Tryz.prog 63 #[.int .i64 n] w (Put3Ret w n) := by
  have hcv : ∀ W b, W.cell? ⟨b, 0, none⟩ = some (.int .u8 (48 + n)) → (convert 87 9 (.slice (some ⟨b, 0, none⟩) 1 1)).run Tryz.prog W = .ok (.string (toB (numL n))) W := fun W b h => by
    rw [numL_low h0 h1]
    exact str_oneB W b _ (cell_u8 _ (by omega) (by omega) h)
  have hw : IntKind.u8.wrap (48 + n) = 48 + n := by simp [IntKind.wrap, go_sem]; omega
  unfold Put3Ret
  obtain ⟨X, hX⟩ : ∃ X, toB (numL n) = X := ⟨_, rfl⟩
  rw [hX] at hcv ⊢
  clear hX
  have hcell : (w.alloc (.cells #[.int .u8 (48 + n)] 5)).cell? ⟨w.heap.size, 0, none⟩ = some (.int .u8 (48 + n)) := by rw [cell_of_row (w.alloc (.cells #[.int .u8 (48 + n)] 5)) w.heap.size 0 _ _ _ (heap_alloc_at rfl)]; rfl
  have hcx := hcv _ _ hcell
  clear hcell hcv
  go_enter Tryz.func63, Tryz.ntmps63
  go_wp2_with fail
  go_ret
  exact ⟨rfl, (Below.refl _ _).alloc (Nat.le_refl _) _⟩
set_option maxRecDepth 100000 in
set_option maxHeartbeats 1000000 in
theorem put3_lowNeg (n : Int) (h0 : n < 0) (h1 : -10 < n) (w : World) : Calls Tryz.prog 63 #[.int .i64 n] w (Put3Ret w n) := by
  have hcv : ∀ W b, W.cell? ⟨b, 0, none⟩ = some (.int .u8 45) → W.cell? ⟨b, 1, none⟩ = some (.int .u8 (48 - n)) → (convert 87 9 (.slice (some ⟨b, 0, none⟩) 2 2)).run Tryz.prog W = .ok (.string (toB (numL n))) W := fun W b h h2 => by
    rw [numL_lowNeg h0 h1]
    exact str_two W b _ _ h (cell_u8 _ (by omega) (by omega) h2)
  have hw : IntKind.u8.wrap (48 - n) = 48 - n := by simp [IntKind.wrap, go_sem]; omega
  unfold Put3Ret
  obtain ⟨X, hX⟩ : ∃ X, toB (numL n) = X := ⟨_, rfl⟩
  rw [hX] at hcv ⊢
  clear hX
  have hcell : ∀ k v, #[Value.int .u8 45, .int .u8 (48 - n)][k]? = some v → (w.alloc (.cells #[.int .u8 45, .int .u8 (48 - n)] 5)).cell? ⟨w.heap.size, k, none⟩ = some v := fun k v h => by rw [cell_of_row (w.alloc (.cells #[.int .u8 45, .int .u8 (48 - n)] 5)) w.heap.size k _ _ _ (heap_alloc_at rfl)]; exact h
  have hcx := hcv _ _ (hcell 0 _ rfl) (hcell 1 _ rfl)
  clear hcell hcv
  go_enter Tryz.func63, Tryz.ntmps63
  go_wp2_with fail
  go_ret
  exact ⟨rfl, (Below.refl _ _).alloc (Nat.le_refl _) _⟩
end Go.Proofs.YtanemojiaahbgaaGreatDoor
end

section
/- ref03.Put where it goes on by itself; walked. -/
set_option linter.unusedSimpArgs false
set_option linter.unusedVariables false
namespace Go.Proofs.YtanemojiaahbgaaGreatDoor
open Go Go.RowKit Go.OpenShut

theorem quo_pos {n : Int} (h : 10 ≤ n) : 0 ≤ n % 10 ∧ n % 10 ≤ 9 ∧ 0 ≤ n / 10 ∧ n / 10 < n := by omega
theorem numL_pos' {n : Int} (h : 10 ≤ n) : numL n = numL (n / 10) ++ [UInt8.ofNat (48 + (n % 10).toNat)] := by
  rw [numL_pos h, Int.tdiv_eq_ediv_of_nonneg (by omega), Int.tmod_eq_emod_of_nonneg (by omega)]
set_option maxRecDepth 100000 in
set_option maxHeartbeats 2000000 in
theorem put3_pos (n : Int) (hwf : (Lit.int .i64 n).wf = true) (h10 : 10 ≤ n) (ih : ∀ W, Calls Tryz.prog 63 #[.int .i64 (n / 10)] W (Put3Ret W (n / 10))) (w : World) : Calls Tryz.prog 63 #[.int .i64 n] w (Put3Ret w n) := by
  have hbn := bounds_i64 hwf
  obtain ⟨hr0, hr9, hq0, hq1⟩ := quo_pos h10
  have hqw : (Lit.int .i64 (n / 10)).wf = true := by simp [Lit.wf, IntKind.min, IntKind.max, IntKind.signed, IntKind.bits]; omega
  have hXs : (toB (numL (n / 10))).size ≤ 20 := by rw [toB_size]; exact numL_len hqw
  have hcv : ∀ W b, W.cell? ⟨b, 0, none⟩ = some (.int .u8 (48 + n % 10)) → (convert 87 9 (.slice (some ⟨b, 0, none⟩) 1 1)).run Tryz.prog W = .ok (.string (toB [UInt8.ofNat (48 + (n % 10).toNat)])) W := fun W b h => str_oneB W b _ (cell_u8 _ (by omega) (by omega) h)
  have hwq : IntKind.i64.wrap (n.tdiv 10) = n / 10 := by rw [Int.tdiv_eq_ediv_of_nonneg (by omega)]; simp [IntKind.wrap, go_sem]; omega
  have hw6 : IntKind.i64.wrap (48 + n % 10) = 48 + n % 10 := by simp [IntKind.wrap, go_sem]; omega
  have hw : IntKind.u8.wrap (48 + n % 10) = 48 + n % 10 := by simp [IntKind.wrap, go_sem]; omega
  have hE : toB (numL n) = toB (numL (n / 10)) ++ toB [UInt8.ofNat (48 + (n % 10).toNat)] := by rw [numL_pos' h10, toB_app]
  have hYs : (toB [UInt8.ofNat (48 + (n % 10).toNat)]).size = 1 := by rw [toB_size]; rfl
  have HPX : Hid (∀ W, Calls Tryz.prog 63 #[.int .i64 (n / 10)] W fun e w' => e = .returned (.string (toB (numL (n / 10)))) ∧ Below W.heap.size W w') := ih
  unfold Put3Ret
  rw [hE]
  clear hE ih
  obtain ⟨X, hX⟩ : ∃ X, toB (numL (n / 10)) = X := ⟨_, rfl⟩
  obtain ⟨Y, hY⟩ : ∃ Y, toB [UInt8.ofNat (48 + (n % 10).toNat)] = Y := ⟨_, rfl⟩
  rw [hX] at hXs HPX ⊢
  rw [hY] at hcv hYs ⊢
  clear hX hY
  have hys : X.size + Y.size ≤ 21 := by omega
  have hys1 : Y.size ≤ 1 := by omega
  have hys2 : ¬ (281474976710656 < X.size + Y.size) := by omega
  clear hYs
  go_enter Tryz.func63, Tryz.ntmps63
  go_upto_region 8 with fail
  have hcell : (w.alloc (.cells #[.int .u8 (48 + n % 10)] 5)).drew.cell? ⟨w.heap.size, 0, none⟩ = some (.int .u8 (48 + n % 10)) := by show (w.alloc (.cells #[.int .u8 (48 + n % 10)] 5)).cell? _ = _; rw [cell_of_row (w.alloc (.cells #[.int .u8 (48 + n % 10)] 5)) w.heap.size 0 _ _ _ (heap_alloc_at rfl)]; rfl
  have hc1 := hcv _ _ hcell
  have HPA : Hid (Calls Tryz.prog 63 #[.int .i64 (n / 10)] (w.alloc (.cells #[.int .u8 (48 + n % 10)] 5)).drew fun e w' => e = .returned (.string X) ∧ Below w.heap.size w w' ∧ (convert 87 9 (.slice (some ⟨w.heap.size, 0, none⟩) 1 1)).run Tryz.prog w' = .ok (.string Y) w') :=
    (HPX.out _).mono (fun e w' h => ⟨h.1, ((Below.refl _ _).alloc (Nat.le_refl _) (.cells #[.int .u8 (48 + n % 10)] 5)).drew.trans (h.2.mono (by show w.heap.size ≤ (w.alloc _).heap.size; simp)), hcv w' _ (bcs h.2 (by show w.heap.size < (w.alloc _).heap.size; simp) hcell)⟩)
  have HPB : Hid (Calls Tryz.prog 63 #[.int .i64 (n / 10)] w.drew fun e w' => e = .returned (.string X) ∧ Below w.heap.size w w' ∧ (convert 87 9 (.slice (some ⟨w'.heap.size, 0, none⟩) 1 1)).run Tryz.prog (w'.alloc (.cells #[.int .u8 (48 + n % 10)] 5)) = .ok (.string Y) (w'.alloc (.cells #[.int .u8 (48 + n % 10)] 5))) :=
    (HPX.out _).mono (fun e w' h => ⟨h.1, (Below.refl _ _).drew.trans (h.2.mono (Nat.le_refl _)), hcv _ _ (by rw [cell_of_row (w'.alloc (.cells #[.int .u8 (48 + n % 10)] 5)) w'.heap.size 0 _ _ _ (heap_alloc_at rfl)]; rfl)⟩)
  clear hcell hcv HPX
  go_region_with
    (first
      | (go_at_call 63; ((with_reducible refine HPA.out.mono ?_); rintro e w3 ⟨rfl, hb3, hcx⟩))
      | (go_at_call 63; ((with_reducible refine HPB.out.mono ?_); rintro e w3 ⟨rfl, hb3, hcx⟩))
      | fail)
  all_goals
    go_wp2_with fail
    go_ret
    first
      | exact ⟨rfl, hb3⟩
      | exact ⟨rfl, hb3.alloc hb3.size _⟩
end Go.Proofs.YtanemojiaahbgaaGreatDoor
end

section
/- A state's text by the document: ref03.Put at what is not below 0, ref10.State; walked. -/
set_option linter.unusedSimpArgs false
set_option linter.unusedVariables false
namespace Go.Proofs.YtanemojiaahbgaaGreatDoor
open Go Go.RowKit Go.OpenShut

theorem put3_nn (N : Nat) : ∀ (n : Int) (w : World), 0 ≤ n → n.toNat ≤ N → (Lit.int .i64 n).wf = true → Calls Tryz.prog 63 #[.int .i64 n] w (Put3Ret w n) := by
  induction N with
  | zero => intro n w h0 h1 _; exact put3_low n h0 (by omega) w
  | succ N ih =>
    intro n w h0 h1 hw
    by_cases h10 : n < 10
    · exact put3_low n h0 h10 w
    · have hbn := bounds_i64 hw
      refine put3_pos n hw (by omega) (fun W => ih _ W (by omega) (by omega) ?_) w
      simp [Lit.wf, IntKind.min, IntKind.max, IntKind.signed, IntKind.bits]
      omega
set_option maxRecDepth 100000 in
set_option maxHeartbeats 2000000 in
theorem state10_any (card : Bool) (n : Int) (w : World) (hn : (Lit.int .i64 n).wf = true) : Calls Tryz.prog 36 #[.int .i64 (kindI card), .int .i64 n] w fun e w' => e = .returned (.string (stateB card n)) ∧ Below w.heap.size w w' := by
  unfold stateB safeN
  by_cases h0 : 0 ≤ n
  · by_cases h1 : n ≤ 9007199254740991
    · have HPX : Hid (∀ W, Calls Tryz.prog 63 #[.int .i64 n] W fun e w' => e = .returned (.string (toB (numL n))) ∧ Below W.heap.size W w') := fun W => put3_nn _ n W h0 (Nat.le_refl _) hn
      have HX : Hid (∀ c : UInt8, toB (c :: numL n) = ⟨#[c]⟩ ++ toB (numL n)) := fun c => by
        have h : toB (c :: numL n) = toB [c] ++ toB (numL n) := by rw [toB_app]; rfl
        exact h
      have hXs : (toB (numL n)).size ≤ 20 := by rw [toB_size]; exact numL_len hn
      obtain ⟨X, hX⟩ : ∃ X, toB (numL n) = X := ⟨_, rfl⟩
      rw [hX] at hXs HPX
      have HX : Hid (∀ c : UInt8, toB (c :: numL n) = ⟨#[c]⟩ ++ X) := fun c => by rw [HX.out, hX]
      have g0 : decide (0 ≤ n) = true := decide_eq_true h0
      have g1 : decide (n ≤ 9007199254740991) = true := decide_eq_true h1
      have q0 : decide (n < 0) = false := decide_eq_false (by omega)
      have q1 : decide ((9007199254740991 : Int) < n) = false := decide_eq_false (by omega)
      rw [g0, g1]
      simp only [Bool.and_true, if_true]
      rw [HX.out]
      have hz1 : 1 + X.size ≤ 21 := by omega
      have hz2 : ¬ (281474976710656 < 1 + X.size) := by omega
      clear hX g0 g1 HX h0 h1
      cases card
      · show Calls Tryz.prog 36 #[.int .i64 2, .int .i64 n] w _
        go_enter Tryz.func36, Tryz.ntmps36
        go_wp2_with (go_at_call 63; refine (HPX.out _).mono ?_; rintro e w1 ⟨rfl, hb1⟩)
        go_ret
        exact ⟨rfl, hb1⟩
      · show Calls Tryz.prog 36 #[.int .i64 1, .int .i64 n] w _
        go_enter Tryz.func36, Tryz.ntmps36
        go_wp2_with (go_at_call 63; refine (HPX.out _).mono ?_; rintro e w1 ⟨rfl, hb1⟩)
        go_ret
        exact ⟨rfl, hb1⟩
    · have g1 : (decide (0 ≤ n) && decide (n ≤ 9007199254740991)) = false := by rw [decide_eq_false h1]; simp
      have q0 : decide (n < 0) = false := decide_eq_false (by omega)
      have q1 : decide ((9007199254740991 : Int) < n) = true := decide_eq_true (by omega)
      rw [g1]
      clear g1 h0 h1
      cases card
      · show Calls Tryz.prog 36 #[.int .i64 2, .int .i64 n] w _
        go_enter Tryz.func36, Tryz.ntmps36
        go_wp2_with fail
        go_ret
        exact ⟨rfl, Below.refl _ _⟩
      · show Calls Tryz.prog 36 #[.int .i64 1, .int .i64 n] w _
        go_enter Tryz.func36, Tryz.ntmps36
        go_wp2_with fail
        go_ret
        exact ⟨rfl, Below.refl _ _⟩
  · have g1 : (decide (0 ≤ n) && decide (n ≤ 9007199254740991)) = false := by rw [decide_eq_false h0]; simp
    have q0 : decide (n < 0) = true := decide_eq_true (by omega)
    rw [g1]
    clear g1 h0
    cases card
    · show Calls Tryz.prog 36 #[.int .i64 2, .int .i64 n] w _
      go_enter Tryz.func36, Tryz.ntmps36
      go_wp2_with fail
      go_ret
      exact ⟨rfl, Below.refl _ _⟩
    · show Calls Tryz.prog 36 #[.int .i64 1, .int .i64 n] w _
      go_enter Tryz.func36, Tryz.ntmps36
      go_wp2_with fail
      go_ret
      exact ⟨rfl, Below.refl _ _⟩
end Go.Proofs.YtanemojiaahbgaaGreatDoor
end
