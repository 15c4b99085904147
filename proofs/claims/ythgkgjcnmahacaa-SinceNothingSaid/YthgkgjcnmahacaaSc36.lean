import Derived.Test.YthgkgjcnmahacaaSc35
/- The law that nothing changed since the present, walked. -/
set_option linter.unusedSimpArgs false
set_option linter.unusedVariables false
namespace Go.Proofs.Ythgkgjcnmahacaa
open Go.RowKit Go.OpenShut

theorem rightBx_head {b : BoxD} (h : RightBx b) : 0 ≤ b.floor ∧ b.floor ≤ b.seq ∧ b.seq ≤ 9007199254740991 ∧ b.seq - b.floor = b.trail.length := by
  have h1 := h.2.2.2.2.1
  unfold rightB headB at h1
  rw [Bool.and_eq_true] at h1
  exact of_decide_eq_true h1.1
theorem rightBx_seq {b : BoxD} (h : RightBx b) {k : Nat} {x : En} (hx : b.trail[k]? = some x) : x.seq = b.floor + 1 + k := by
  have h1 := h.2.2.2.2.1
  unfold rightB at h1
  simp only [Bool.and_eq_true, List.all_eq_true, List.mem_range] at h1
  have h2 := h1.2 k (List.getElem?_eq_some_iff.1 hx).1
  rw [okAt_of hx] at h2
  simp at h2
  exact h2.1
theorem since_now {b : BoxD} (h : RightBx b) {sq : Int} (hs : b.seq ≤ sq) : sinceL sq b.trail = [] := by
  have key : ∀ l : List En, (∀ x ∈ l, x.seq ≤ sq) → sinceL sq l = [] := by
    intro l
    induction l with
    | nil => intro _; rfl
    | cons e r ih =>
      intro hl
      rw [sinceL_cons, if_pos (hl e (by simp))]
      exact ih (fun x hx => hl x (List.mem_cons_of_mem _ hx))
  refine key _ fun x hx => ?_
  obtain ⟨k, hk⟩ := List.getElem?_of_mem hx
  have h1 := rightBx_seq h hk
  have h2 := (List.getElem?_eq_some_iff.1 hk).1
  have h3 := (rightBx_head h).2.2.2
  omega
theorem snc_nil (seq most : Int) : sncD seq [] most = ⟨[], [], [], seq, false⟩ := by
  have h := sncD_all (ys := []) (seq := seq) (most := most) (fun h => by show ((0 : Nat) : Int) ≤ most; omega)
  rw [h]
  show (⟨sortB [], sortB [], sortB [], seq, false⟩ : ChD) = _
  rw [sortB_nil]

set_option maxRecDepth 200000 in
set_option maxHeartbeats 8000000 in
theorem sinceNothing_any (w : World) (b : BoxD) (r : RB) (most : Int) (hb : BoxOf w w.heap.size b r) (ob : b.Ok) (hwm : (Lit.int .i64 most).wf = true) :
    Calls Try.prog 10 #[r.val, .int .i64 most] w fun e w' => e = .returned (.bool true) ∧ Below w.heap.size w w' := by
  have hA : Below w.heap.size w (w.alloc r.obj) := (Below.refl _ _).alloc (Nat.le_refl _) _
  have hS : BxS w (w.alloc r.obj) b r := ⟨heap_alloc_at rfl, hb.under hA hA.size, hA⟩
  have HOB := Lib.hid ob
  have HWM := Lib.hid hwm
  have HEQ : Hid (b.seq = r.sq ∧ b.floor = r.fl) := ⟨hb.seq, hb.floor⟩
  clear hb ob hwm hA
  obtain ⟨po, no, co, pt, nt, ct, sq, fl, kp⟩ := r
  dsimp only [RB.val, RB.obj] at *
  go_enter Try.func10, Try.ntmps10
  go_upto_region 1 with fail
  obtain ⟨W0, hW0⟩ : ∃ W, w.alloc (.cells #[.slice po no co, .slice pt nt ct, .int .i64 sq, .int .i64 fl, .int .i64 kp] 35) = W := ⟨_, rfl⟩
  rw [hW0] at hS
  rw [hW0]
  have HS0 := Lib.hid hS
  clear hW0 hS
  go_wp2_with fail
  refine (awake19_any _).mono ?_
  rintro e w1 ⟨rfl, hb1⟩
  have HS1 := Lib.hid (HS0.out.go hb1)
  clear hb1 HS0
  have c0 := HS1.out.box.cell 0 rfl
  have c1 := HS1.out.box.cell 1 rfl
  have c2 := HS1.out.box.cell 2 rfl
  have c3 := HS1.out.box.cell 3 rfl
  have c4 := HS1.out.box.cell 4 rfl
  dsimp only at c0 c1 c2 c3 c4
  go_wp2_with fail
  refine (few19_any b ⟨po, no, co, pt, nt, ct, sq, fl, kp⟩ [] (.slice none 0 0) w1 HS1.out.of HOB.out (Rd.nil _ _) (fun o h => by simp at h)).mono ?_
  rintro e w2 ⟨y, rfl, HF, hb2⟩
  have HS2 := Lib.hid (HS1.out.go hb2)
  clear hb2 HS1 c0 c1 c2 c3 c4
  cases y with
  | false =>
    go_wp2_with fail
    refine (awake19_any _).mono ?_
    rintro e w3 ⟨rfl, hb3⟩
    go_wp2_with fail
    go_ret
    exact ⟨rfl, (HS2.out.go hb3).below⟩
  | true =>
  have hR := (HF.out rfl).2.2.2
  have hh := rightBx_head hR
  rw [HEQ.out.1, HEQ.out.2] at hh
  obtain ⟨hh1, hh2, hh3, hh4⟩ := hh
  have HY : Hid (∀ ys, IsStable cfP (sinceL sq b.trail) ys → ys = []) := fun ys hy => by
    rw [since_now hR (by rw [HEQ.out.1]; exact Int.le_refl _)] at hy
    exact hy.perm.eq_nil
  have HN0 : Hid (¬ (sq < b.floor ∨ b.seq < sq)) := by unfold Hid; rw [HEQ.out.1, HEQ.out.2]; omega
  have HN1 : Hid (sq + 1 < b.floor ∨ b.seq < sq + 1) := by unfold Hid; rw [HEQ.out.1, HEQ.out.2]; omega
  have HN2 : Hid (fl - 1 < b.floor ∨ b.seq < fl - 1) := by unfold Hid; rw [HEQ.out.1, HEQ.out.2]; omega
  clear HF hR hh4
  have c0 := HS2.out.box.cell 0 rfl
  have c1 := HS2.out.box.cell 1 rfl
  have c2 := HS2.out.box.cell 2 rfl
  have c3 := HS2.out.box.cell 3 rfl
  have c4 := HS2.out.box.cell 4 rfl
  dsimp only at c0 c1 c2 c3 c4
  go_upto_region 4 with (go_at_call 42; refine (changes_any b ⟨po, no, co, pt, nt, ct, sq, fl, kp⟩ sq most _ HS2.out.of HOB.out HWM.out).mono ?_; rintro e w3 ⟨h1, hb1⟩; rw [if_neg HN0.out] at h1; obtain ⟨ys, r1, hys, rfl, hn⟩ := h1; (have hy := HY.out ys hys); subst hy; rw [snc_nil] at hn; go_frame)
  have hS3 := HS2.out.chs.push hb1 hn
  obtain ⟨g1, hg1⟩ : ∃ g, w3.heap.size = g := ⟨_, rfl⟩
  obtain ⟨W3, hW3⟩ : ∃ W, w3.alloc r1.obj = W := ⟨_, rfl⟩
  rw [hg1, hW3] at hS3
  dsimp only [RC.obj] at hW3
  rw [hW3, hg1]
  have HS3 := Lib.hid hS3
  clear hW3 hg1 hS3 hb1 hn hys c0 c1 c2 c3 c4 HS2
  have c0 := HS3.out.box.cell 0 rfl
  have c1 := HS3.out.box.cell 1 rfl
  have c2 := HS3.out.box.cell 2 rfl
  have c3 := HS3.out.box.cell 3 rfl
  have c4 := HS3.out.box.cell 4 rfl
  dsimp only at c0 c1 c2 c3 c4
  go_upto_region 5 with (go_at_call 42; refine (changes_any b ⟨po, no, co, pt, nt, ct, sq, fl, kp⟩ (sq + 1) most _ HS3.out.of HOB.out HWM.out).mono ?_; rintro e w4 ⟨h1, hb1⟩; rw [if_pos HN1.out] at h1; subst h1; go_frame)
  have hS4 := HS3.out.go (hb1.alloc hb1.size RC.zero.obj)
  obtain ⟨g2, hg2⟩ : ∃ g, w4.heap.size = g := ⟨_, rfl⟩
  obtain ⟨W4, hW4⟩ : ∃ W, w4.alloc RC.zero.obj = W := ⟨_, rfl⟩
  rw [hW4] at hS4
  dsimp only [RC.obj] at hW4
  rw [hW4, hg2]
  have HS4 := Lib.hid hS4
  clear hW4 hg2 hS4 hb1 c0 c1 c2 c3 c4 HS3
  have c0 := HS4.out.box.cell 0 rfl
  have c1 := HS4.out.box.cell 1 rfl
  have c2 := HS4.out.box.cell 2 rfl
  have c3 := HS4.out.box.cell 3 rfl
  have c4 := HS4.out.box.cell 4 rfl
  dsimp only at c0 c1 c2 c3 c4
  go_upto_region 6 with (go_at_call 42; refine (changes_any b ⟨po, no, co, pt, nt, ct, sq, fl, kp⟩ (fl - 1) most _ HS4.out.of HOB.out HWM.out).mono ?_; rintro e w5 ⟨h1, hb1⟩; rw [if_pos HN2.out] at h1; subst h1; go_frame)
  have hS5 := HS4.out.go (hb1.alloc hb1.size RC.zero.obj)
  obtain ⟨g3, hg3⟩ : ∃ g, w5.heap.size = g := ⟨_, rfl⟩
  obtain ⟨W5, hW5⟩ : ∃ W, w5.alloc RC.zero.obj = W := ⟨_, rfl⟩
  rw [hW5] at hS5
  dsimp only [RC.obj] at hW5
  rw [hW5, hg3]
  have HS5 := Lib.hid hS5
  clear hW5 hg3 hS5 hb1 c0 c1 c2 c3 c4 HS4
  have c0 := HS5.out.box.cell 0 rfl
  have c1 := HS5.out.box.cell 1 rfl
  have c2 := HS5.out.box.cell 2 rfl
  have c3 := HS5.out.box.cell 3 rfl
  have c4 := HS5.out.box.cell 4 rfl
  dsimp only at c0 c1 c2 c3 c4
  have HC1 := HS5.out.chg (g1, r1, ⟨[], [], [], b.seq, false⟩) (by simp)
  dsimp only at HC1
  have d0 := HC1.1.cell 0 rfl
  have d1 := HC1.1.cell 1 rfl
  have d2 := HC1.1.cell 2 rfl
  have d3 := HC1.1.cell 3 rfl
  have d4 := HC1.1.cell 4 rfl
  have HQ := Lib.hid (same19_yes _ r1 ⟨none, 0, 0, none, 0, 0, none, 0, 0, sq, false⟩ W5 HC1.2 ⟨Rd.nil _ _, Rd.nil _ _, Rd.nil _ _, HEQ.out.1, rfl⟩)
  clear HC1
  go_wp2_with fail
  refine HQ.out.mono ?_
  rintro e w6 ⟨rfl, hb6⟩
  have HS6 := Lib.hid (HS5.out.go hb6)
  clear hb6 HS5 HQ
  go_wp2_with fail
  go_ret
  exact ⟨rfl, HS6.out.below⟩
end Go.Proofs.Ythgkgjcnmahacaa
