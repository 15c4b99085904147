import Derived.Test.YtanemojiaahbgaaGreatDoorSf06
/- May a value be what a letter says? ref24.may; walked. -/
set_option linter.unusedSimpArgs false
set_option linter.unusedVariables false
namespace Go.Proofs.YtanemojiaahbgaaGreatDoor
open Go Go.RowKit Go.OpenShut

theorem all_take {α : Type} {l : List α} {p : α → Bool} (h : ∀ (j : Nat) y, j < l.length → l[j]? = some y → p y = true) : l.all p = true := by
  rw [List.all_eq_true]
  intro x hx
  obtain ⟨i, hi⟩ := List.getElem?_of_mem hx
  exact h i x (List.getElem?_eq_some_iff.1 hi).1 hi
theorem all_not {α : Type} {l : List α} {p : α → Bool} {j : Nat} {y : α} (hy : l[j]? = some y) (h : p y = false) : l.all p = false := by
  rw [List.all_eq_false]
  exact ⟨y, List.mem_of_getElem? hy, by rw [h]; simp⟩

set_option maxRecDepth 100000 in
set_option maxHeartbeats 8000000 in
theorem refMay_any (c : Nat) (t : JV) (r : RV) (w : World) (hc : c ∈ letters) (ht : TreeOf w w.heap.size t r) (ot : t.Ok) :
    Calls Tryz.prog 82 #[.int .u8 (c : Int), r.val] w fun e w' => e = .returned (.bool (mayK c t)) ∧ Below w.heap.size w w' := by
  obtain ⟨hk, hn, hs⟩ := ht.head
  obtain ⟨rs, hl, hlen, hsub⟩ := ht.lst
  have hsz := ot.s_le
  have hrs : ∀ (i : Nat) x, rs[i]? = some x → x.s.size ≤ maxLen := fun i x hx => by
    obtain ⟨y, hy⟩ : ∃ y, t.l[i]? = some y := ⟨_, List.getElem?_eq_getElem (by rw [hlen]; exact (List.getElem?_eq_some_iff.1 hx).1)⟩
    have h1 := (hsub i y x hy hx).head
    have h2 := (ot.at_l hy).s_le
    rw [← h1.2.2]; unfold maxLen; omega
  have hall1 : t.l.all (fun x => decide (x.k = 4) && idB x.s) = rs.all (fun x => decide (x.k = 4) && idB x.s) := all_same hlen (fun i x y h1 h2 => by have h := (hsub i x y h1 h2).head; rw [h.1, h.2.2])
  have hall2 : t.l.all (fun x => decide (x.k = 4) && true) = rs.all (fun x => decide (x.k = 4) && true) := all_same hlen (fun i x y h1 h2 => by have h := (hsub i x y h1 h2).head; rw [h.1])
  have hB : Below w.heap.size w (w.alloc r.obj) := (Below.refl _ _).alloc (Nat.le_refl _) _
  have hA : VAt (w.alloc r.obj) w.heap.size r := heap_alloc_at rfl
  have HID : Hid (∀ W, Calls Tryz.prog 101 #[.string r.s] W fun e w' => e = .returned (.bool (idB r.s)) ∧ w' = W) := fun W => refIs_any r.s W (by rw [← hs]; unfold maxLen; omega)
  unfold mayK
  rw [hk, hn, hs, hall1, hall2]
  have HN : Hid (r.nl = rs.length ∧ rs.length ≤ 1759218604390) := ⟨rd_nlen hl, by omega⟩
  have HRD : Hid (Rd (w.alloc r.obj) (w.alloc r.obj).heap.size encV 5 (.slice r.pl r.nl r.cl) rs) := hl.below hB hB.size
  have HRS := Lib.hid hrs
  obtain ⟨b0, hb0⟩ : ∃ b, idB r.s = b := ⟨_, rfl⟩
  obtain ⟨b1, hb1⟩ : ∃ b, rs.all (fun x => decide (x.k = 4) && idB x.s) = b := ⟨_, rfl⟩
  obtain ⟨b2, hb2⟩ : ∃ b, rs.all (fun x => decide (x.k = 4) && true) = b := ⟨_, rfl⟩
  rw [hb0] at HID ⊢
  rw [hb1, hb2]
  have HB1 := Lib.hid hb1
  have HB2 := Lib.hid hb2
  clear hb1 hb2
  clear hb0 hall1 hall2 hrs hsz hlen hsub hl ot ht hk hn hs
  obtain ⟨k, n, s, pl, nl, cl, pm, nm, cm⟩ := r
  dsimp only [RV.val, RV.obj] at *
  obtain ⟨W0, hW0⟩ : ∃ W, w.alloc (.cells #[.int .i64 k, .int .i64 n, .string s, .slice pl nl cl, .slice pm nm cm] 31) = W := ⟨_, rfl⟩
  rw [hW0] at hB hA HRD
  have HB := Lib.hid hB
  have HA := Lib.hid hA
  clear hB hA
  simp only [letters, List.mem_cons, List.not_mem_nil, or_false] at hc
  rcases hc with rfl | rfl | rfl | rfl | rfl | rfl | rfl | rfl | rfl | rfl
  · by_cases k1 : k = 1
    · subst k1
      go_enter Tryz.func82, Tryz.ntmps82
      go_upto_region 1 with fail
      try rw [hW0]
      clear hW0
      have a0 := HA.out.cell 0 rfl
      have a1 := HA.out.cell 1 rfl
      have a2 := HA.out.cell 2 rfl
      have a3 := HA.out.cell 3 rfl
      have a4 := HA.out.cell 4 rfl
      go_wp2_with fail
      go_ret
      exact ⟨ret_boolI (by simp), HB.out⟩
    · have q1 : (k == 1) = false := by simpa using k1
      rw [if_neg k1]
      clear k1
      by_cases k4 : k = 4
      · subst k4
        go_enter Tryz.func82, Tryz.ntmps82
        go_upto_region 1 with fail
        try rw [hW0]
        clear hW0
        have a0 := HA.out.cell 0 rfl
        have a1 := HA.out.cell 1 rfl
        have a2 := HA.out.cell 2 rfl
        have a3 := HA.out.cell 3 rfl
        have a4 := HA.out.cell 4 rfl
        go_wp2_with (go_at_call 101; refine (HID.out _).mono ?_; rintro e w1 ⟨rfl, rfl⟩)
        go_ret
        exact ⟨ret_boolI (by simp), HB.out⟩
      · have q4 : (k == 4) = false := by simpa using k4
        rw [decide_eq_false k4]
        clear k4
        go_enter Tryz.func82, Tryz.ntmps82
        go_upto_region 1 with fail
        try rw [hW0]
        clear hW0
        have a0 := HA.out.cell 0 rfl
        have a1 := HA.out.cell 1 rfl
        have a2 := HA.out.cell 2 rfl
        have a3 := HA.out.cell 3 rfl
        have a4 := HA.out.cell 4 rfl
        go_wp2_with fail
        go_ret
        exact ⟨ret_boolI (by simp), HB.out⟩
  · by_cases k1 : k = 1
    · subst k1
      go_enter Tryz.func82, Tryz.ntmps82
      go_upto_region 1 with fail
      try rw [hW0]
      clear hW0
      have a0 := HA.out.cell 0 rfl
      have a1 := HA.out.cell 1 rfl
      have a2 := HA.out.cell 2 rfl
      have a3 := HA.out.cell 3 rfl
      have a4 := HA.out.cell 4 rfl
      go_wp2_with fail
      go_ret
      exact ⟨ret_boolI (by simp), HB.out⟩
    · have q1 : (k == 1) = false := by simpa using k1
      rw [if_neg k1]
      clear k1
      by_cases k4 : k = 4
      · subst k4
        go_enter Tryz.func82, Tryz.ntmps82
        go_upto_region 1 with fail
        try rw [hW0]
        clear hW0
        have a0 := HA.out.cell 0 rfl
        have a1 := HA.out.cell 1 rfl
        have a2 := HA.out.cell 2 rfl
        have a3 := HA.out.cell 3 rfl
        have a4 := HA.out.cell 4 rfl
        go_wp2_with (go_at_call 101; refine (HID.out _).mono ?_; rintro e w1 ⟨rfl, rfl⟩)
        go_ret
        exact ⟨ret_boolI (by simp), HB.out⟩
      · have q4 : (k == 4) = false := by simpa using k4
        rw [decide_eq_false k4]
        clear k4
        go_enter Tryz.func82, Tryz.ntmps82
        go_upto_region 1 with fail
        try rw [hW0]
        clear hW0
        have a0 := HA.out.cell 0 rfl
        have a1 := HA.out.cell 1 rfl
        have a2 := HA.out.cell 2 rfl
        have a3 := HA.out.cell 3 rfl
        have a4 := HA.out.cell 4 rfl
        go_wp2_with fail
        go_ret
        exact ⟨ret_boolI (by simp), HB.out⟩
  · by_cases k1 : k = 1
    · subst k1
      go_enter Tryz.func82, Tryz.ntmps82
      go_upto_region 1 with fail
      try rw [hW0]
      clear hW0
      have a0 := HA.out.cell 0 rfl
      have a1 := HA.out.cell 1 rfl
      have a2 := HA.out.cell 2 rfl
      have a3 := HA.out.cell 3 rfl
      have a4 := HA.out.cell 4 rfl
      go_wp2_with fail
      go_ret
      exact ⟨ret_boolI (by simp), HB.out⟩
    · have q1 : (k == 1) = false := by simpa using k1
      rw [if_neg k1]
      clear k1
      by_cases k4 : k = 4
      · subst k4
        go_enter Tryz.func82, Tryz.ntmps82
        go_upto_region 1 with fail
        try rw [hW0]
        clear hW0
        have a0 := HA.out.cell 0 rfl
        have a1 := HA.out.cell 1 rfl
        have a2 := HA.out.cell 2 rfl
        have a3 := HA.out.cell 3 rfl
        have a4 := HA.out.cell 4 rfl
        go_wp2_with fail
        go_ret
        exact ⟨ret_boolI (by simp), HB.out⟩
      · have q4 : (k == 4) = false := by simpa using k4
        rw [decide_eq_false k4]
        clear k4
        go_enter Tryz.func82, Tryz.ntmps82
        go_upto_region 1 with fail
        try rw [hW0]
        clear hW0
        have a0 := HA.out.cell 0 rfl
        have a1 := HA.out.cell 1 rfl
        have a2 := HA.out.cell 2 rfl
        have a3 := HA.out.cell 3 rfl
        have a4 := HA.out.cell 4 rfl
        go_wp2_with fail
        go_ret
        exact ⟨ret_boolI (by simp), HB.out⟩
  · by_cases k1 : k = 1
    · subst k1
      go_enter Tryz.func82, Tryz.ntmps82
      go_upto_region 1 with fail
      try rw [hW0]
      clear hW0
      have a0 := HA.out.cell 0 rfl
      have a1 := HA.out.cell 1 rfl
      have a2 := HA.out.cell 2 rfl
      have a3 := HA.out.cell 3 rfl
      have a4 := HA.out.cell 4 rfl
      go_wp2_with fail
      go_ret
      exact ⟨ret_boolI (by simp), HB.out⟩
    · have q1 : (k == 1) = false := by simpa using k1
      rw [if_neg k1]
      clear k1
      by_cases k4 : k = 5
      · subst k4
        go_enter Tryz.func82, Tryz.ntmps82
        go_upto_region 1 with fail
        try rw [hW0]
        clear hW0
        have a0 := HA.out.cell 0 rfl
        have a1 := HA.out.cell 1 rfl
        have a2 := HA.out.cell 2 rfl
        have a3 := HA.out.cell 3 rfl
        have a4 := HA.out.cell 4 rfl
        obtain ⟨rfl, hnl⟩ := HN.out
        go_wp2_with fail
        go_loopw [5] (fun i wr => ∃ j : Nat, j ≤ rs.length ∧ i = .int .i64 (j : Int) ∧ Hid (∀ (q : Nat) y, q < j → rs[q]? = some y → (decide (y.k = 4) && idB y.s) = true) ∧ wr = W0) (fun i _ => rs.length - (intOf i).toNat)
        case atStart => exact ⟨0, Nat.zero_le _, rfl, fun q y h => by omega, rfl⟩
        case round =>
          obtain ⟨j, hj, rfl, hno, rfl⟩ := hrel
          have j0 : (0 : Int) ≤ (j : Int) := Int.natCast_nonneg _
          by_cases hlt : j < rs.length
          · have j1 : (j : Int) < (rs.length : Int) := by omega
            obtain ⟨x, hx⟩ : ∃ x, rs[j]? = some x := ⟨_, List.getElem?_eq_getElem hlt⟩
            obtain ⟨b1, o1, rfl, hb1, hc1⟩ := rd_at' HRD.out hx
            have f0 := hc1 0 _ rfl
            have f1 := hc1 1 _ rfl
            have f2 := hc1 2 _ rfl
            have f3 := hc1 3 _ rfl
            have f4 := hc1 4 _ rfl
            rw [Nat.add_zero] at f0
            have HX := Lib.hid hx
            have HNO := Lib.hid hno.out
            have HIX : Hid (∀ W, Calls Tryz.prog 101 #[.string x.s] W fun e w' => e = .returned (.bool (idB x.s)) ∧ w' = W) := fun W => refIs_any x.s W (HRS.out j x hx)
            obtain ⟨xk, xn, xs, xpl, xnl, xcl, xpm, xnm, xcm⟩ := x
            dsimp only at *
            obtain ⟨b, hb⟩ : ∃ b, idB xs = b := ⟨_, rfl⟩
            rw [hb] at HIX
            have HBB := Lib.hid hb
            clear hx hc1 hno hb
            by_cases x4 : xk = 4
            · subst x4
              cases b
              all_goals
                go_wp2_with (go_at_call 101; refine (HIX.out _).mono ?_; rintro e w1 ⟨rfl, rfl⟩)
                first
                  | (go_roundw
                     case rel =>
                       refine ⟨j + 1, by omega, by go_num, fun q y hq hy => ?_, by first | rfl | trivial⟩
                       by_cases e : q = j
                       · subst e
                         have h2 := HX.out
                         rw [hy] at h2
                         cases h2
                         simp [HBB.out]
                       · exact HNO.out q y (by omega) hy
                     case measure => simp [intOf]; omega)
                  | (go_ret
                     have hf : rs.all (fun x : RV => decide (x.k = 4) && idB x.s) = false := all_not HX.out (by simp [HBB.out])
                     exact ⟨ret_boolI (by rw [HB1.out.symm.trans hf]; try simp), HB.out⟩)
            · have x5 : (xk != 4) = true := by simpa using x4
              have hf := Lib.hid (all_not (p := fun x : RV => decide (x.k = 4) && idB x.s) HX.out (by simp [x4]))
              clear x4
              go_wp2_with fail
              go_ret
              exact ⟨ret_boolI (by rw [HB1.out.symm.trans hf.out]; try simp), HB.out⟩
          · obtain rfl : j = rs.length := by omega
            have hf := Lib.hid (all_take (p := fun x : RV => decide (x.k = 4) && idB x.s) hno.out)
            go_wp2_with fail
            go_ret
            exact ⟨ret_boolI (by rw [HB1.out.symm.trans hf.out]; try simp), HB.out⟩
      · have q4 : (k != 5) = true := by simpa using k4
        rw [decide_eq_false k4]
        clear k4
        go_enter Tryz.func82, Tryz.ntmps82
        go_upto_region 1 with fail
        try rw [hW0]
        clear hW0
        have a0 := HA.out.cell 0 rfl
        have a1 := HA.out.cell 1 rfl
        have a2 := HA.out.cell 2 rfl
        have a3 := HA.out.cell 3 rfl
        have a4 := HA.out.cell 4 rfl
        go_wp2_with fail
        go_ret
        exact ⟨ret_boolI (by simp), HB.out⟩
  · by_cases k1 : k = 1
    · subst k1
      go_enter Tryz.func82, Tryz.ntmps82
      go_upto_region 1 with fail
      try rw [hW0]
      clear hW0
      have a0 := HA.out.cell 0 rfl
      have a1 := HA.out.cell 1 rfl
      have a2 := HA.out.cell 2 rfl
      have a3 := HA.out.cell 3 rfl
      have a4 := HA.out.cell 4 rfl
      go_wp2_with fail
      go_ret
      exact ⟨ret_boolI (by simp), HB.out⟩
    · have q1 : (k == 1) = false := by simpa using k1
      rw [if_neg k1]
      clear k1
      by_cases k4 : k = 5
      · subst k4
        go_enter Tryz.func82, Tryz.ntmps82
        go_upto_region 1 with fail
        try rw [hW0]
        clear hW0
        have a0 := HA.out.cell 0 rfl
        have a1 := HA.out.cell 1 rfl
        have a2 := HA.out.cell 2 rfl
        have a3 := HA.out.cell 3 rfl
        have a4 := HA.out.cell 4 rfl
        obtain ⟨rfl, hnl⟩ := HN.out
        go_wp2_with fail
        go_loopw [5] (fun i wr => ∃ j : Nat, j ≤ rs.length ∧ i = .int .i64 (j : Int) ∧ Hid (∀ (q : Nat) y, q < j → rs[q]? = some y → (decide (y.k = 4) && true) = true) ∧ wr = W0) (fun i _ => rs.length - (intOf i).toNat)
        case atStart => exact ⟨0, Nat.zero_le _, rfl, fun q y h => by omega, rfl⟩
        case round =>
          obtain ⟨j, hj, rfl, hno, rfl⟩ := hrel
          have j0 : (0 : Int) ≤ (j : Int) := Int.natCast_nonneg _
          by_cases hlt : j < rs.length
          · have j1 : (j : Int) < (rs.length : Int) := by omega
            obtain ⟨x, hx⟩ : ∃ x, rs[j]? = some x := ⟨_, List.getElem?_eq_getElem hlt⟩
            obtain ⟨b1, o1, rfl, hb1, hc1⟩ := rd_at' HRD.out hx
            have f0 := hc1 0 _ rfl
            have f1 := hc1 1 _ rfl
            have f2 := hc1 2 _ rfl
            have f3 := hc1 3 _ rfl
            have f4 := hc1 4 _ rfl
            rw [Nat.add_zero] at f0
            have HX := Lib.hid hx
            have HNO := Lib.hid hno.out
            have HIX : Hid (∀ W, Calls Tryz.prog 101 #[.string x.s] W fun e w' => e = .returned (.bool (idB x.s)) ∧ w' = W) := fun W => refIs_any x.s W (HRS.out j x hx)
            obtain ⟨xk, xn, xs, xpl, xnl, xcl, xpm, xnm, xcm⟩ := x
            dsimp only at *
            obtain ⟨b, hb⟩ : ∃ b, idB xs = b := ⟨_, rfl⟩
            rw [hb] at HIX
            have HBB := Lib.hid hb
            clear hx hc1 hno hb
            by_cases x4 : xk = 4
            · subst x4
              go_wp2_with fail
              go_roundw
              case rel =>
                refine ⟨j + 1, by omega, by go_num, fun q y hq hy => ?_, by first | rfl | trivial⟩
                by_cases e : q = j
                · subst e
                  have h2 := HX.out
                  rw [hy] at h2
                  cases h2
                  simp
                · exact HNO.out q y (by omega) hy
              case measure => simp [intOf]; omega
            · have x5 : (xk != 4) = true := by simpa using x4
              have hf := Lib.hid (all_not (p := fun x : RV => decide (x.k = 4) && true) HX.out (by simp [x4]))
              clear x4
              go_wp2_with fail
              go_ret
              exact ⟨ret_boolI (by rw [HB2.out.symm.trans hf.out]; try simp), HB.out⟩
          · obtain rfl : j = rs.length := by omega
            have hf := Lib.hid (all_take (p := fun x : RV => decide (x.k = 4) && true) hno.out)
            go_wp2_with fail
            go_ret
            exact ⟨ret_boolI (by rw [HB2.out.symm.trans hf.out]; try simp), HB.out⟩
      · have q4 : (k != 5) = true := by simpa using k4
        rw [decide_eq_false k4]
        clear k4
        go_enter Tryz.func82, Tryz.ntmps82
        go_upto_region 1 with fail
        try rw [hW0]
        clear hW0
        have a0 := HA.out.cell 0 rfl
        have a1 := HA.out.cell 1 rfl
        have a2 := HA.out.cell 2 rfl
        have a3 := HA.out.cell 3 rfl
        have a4 := HA.out.cell 4 rfl
        go_wp2_with fail
        go_ret
        exact ⟨ret_boolI (by simp), HB.out⟩
  · by_cases k1 : k = 1
    · subst k1
      go_enter Tryz.func82, Tryz.ntmps82
      go_upto_region 1 with fail
      try rw [hW0]
      clear hW0
      have a0 := HA.out.cell 0 rfl
      have a1 := HA.out.cell 1 rfl
      have a2 := HA.out.cell 2 rfl
      have a3 := HA.out.cell 3 rfl
      have a4 := HA.out.cell 4 rfl
      go_wp2_with fail
      go_ret
      exact ⟨ret_boolI (by simp), HB.out⟩
    · have q1 : (k == 1) = false := by simpa using k1
      rw [if_neg k1]
      clear k1
      go_enter Tryz.func82, Tryz.ntmps82
      go_upto_region 1 with fail
      try rw [hW0]
      clear hW0
      have a0 := HA.out.cell 0 rfl
      have a1 := HA.out.cell 1 rfl
      have a2 := HA.out.cell 2 rfl
      have a3 := HA.out.cell 3 rfl
      have a4 := HA.out.cell 4 rfl
      go_wp2_with fail
      go_ret
      exact ⟨ret_boolI (by simp), HB.out⟩
  · by_cases k1 : k = 1
    · subst k1
      go_enter Tryz.func82, Tryz.ntmps82
      go_upto_region 1 with fail
      try rw [hW0]
      clear hW0
      have a0 := HA.out.cell 0 rfl
      have a1 := HA.out.cell 1 rfl
      have a2 := HA.out.cell 2 rfl
      have a3 := HA.out.cell 3 rfl
      have a4 := HA.out.cell 4 rfl
      go_wp2_with fail
      go_ret
      exact ⟨ret_boolI (by simp), HB.out⟩
    · have q1 : (k == 1) = false := by simpa using k1
      rw [if_neg k1]
      clear k1
      by_cases k4 : k = 3
      · subst k4
        by_cases hn : 0 ≤ n
        · have q5 : decide (0 ≤ n) = true := decide_eq_true hn
          rw [q5]
          go_enter Tryz.func82, Tryz.ntmps82
          go_upto_region 1 with fail
          try rw [hW0]
          clear hW0
          have a0 := HA.out.cell 0 rfl
          have a1 := HA.out.cell 1 rfl
          have a2 := HA.out.cell 2 rfl
          have a3 := HA.out.cell 3 rfl
          have a4 := HA.out.cell 4 rfl
          go_wp2_with fail
          go_ret
          exact ⟨ret_boolI (by simp), HB.out⟩
        · have q5 : decide (0 ≤ n) = false := decide_eq_false hn
          rw [q5]
          go_enter Tryz.func82, Tryz.ntmps82
          go_upto_region 1 with fail
          try rw [hW0]
          clear hW0
          have a0 := HA.out.cell 0 rfl
          have a1 := HA.out.cell 1 rfl
          have a2 := HA.out.cell 2 rfl
          have a3 := HA.out.cell 3 rfl
          have a4 := HA.out.cell 4 rfl
          go_wp2_with fail
          go_ret
          exact ⟨ret_boolI (by simp), HB.out⟩
      · have q4 : (k == 3) = false := by simpa using k4
        rw [decide_eq_false k4]
        clear k4
        go_enter Tryz.func82, Tryz.ntmps82
        go_upto_region 1 with fail
        try rw [hW0]
        clear hW0
        have a0 := HA.out.cell 0 rfl
        have a1 := HA.out.cell 1 rfl
        have a2 := HA.out.cell 2 rfl
        have a3 := HA.out.cell 3 rfl
        have a4 := HA.out.cell 4 rfl
        go_wp2_with fail
        go_ret
        exact ⟨ret_boolI (by simp), HB.out⟩
  · by_cases k1 : k = 1
    · subst k1
      go_enter Tryz.func82, Tryz.ntmps82
      go_upto_region 1 with fail
      try rw [hW0]
      clear hW0
      have a0 := HA.out.cell 0 rfl
      have a1 := HA.out.cell 1 rfl
      have a2 := HA.out.cell 2 rfl
      have a3 := HA.out.cell 3 rfl
      have a4 := HA.out.cell 4 rfl
      go_wp2_with fail
      go_ret
      exact ⟨ret_boolI (by simp), HB.out⟩
    · have q1 : (k == 1) = false := by simpa using k1
      rw [if_neg k1]
      clear k1
      by_cases k4 : k = 3
      · subst k4
        by_cases hn : 1 ≤ n
        · have q5 : decide (1 ≤ n) = true := decide_eq_true hn
          rw [q5]
          go_enter Tryz.func82, Tryz.ntmps82
          go_upto_region 1 with fail
          try rw [hW0]
          clear hW0
          have a0 := HA.out.cell 0 rfl
          have a1 := HA.out.cell 1 rfl
          have a2 := HA.out.cell 2 rfl
          have a3 := HA.out.cell 3 rfl
          have a4 := HA.out.cell 4 rfl
          go_wp2_with fail
          go_ret
          exact ⟨ret_boolI (by simp), HB.out⟩
        · have q5 : decide (1 ≤ n) = false := decide_eq_false hn
          rw [q5]
          go_enter Tryz.func82, Tryz.ntmps82
          go_upto_region 1 with fail
          try rw [hW0]
          clear hW0
          have a0 := HA.out.cell 0 rfl
          have a1 := HA.out.cell 1 rfl
          have a2 := HA.out.cell 2 rfl
          have a3 := HA.out.cell 3 rfl
          have a4 := HA.out.cell 4 rfl
          go_wp2_with fail
          go_ret
          exact ⟨ret_boolI (by simp), HB.out⟩
      · have q4 : (k == 3) = false := by simpa using k4
        rw [decide_eq_false k4]
        clear k4
        go_enter Tryz.func82, Tryz.ntmps82
        go_upto_region 1 with fail
        try rw [hW0]
        clear hW0
        have a0 := HA.out.cell 0 rfl
        have a1 := HA.out.cell 1 rfl
        have a2 := HA.out.cell 2 rfl
        have a3 := HA.out.cell 3 rfl
        have a4 := HA.out.cell 4 rfl
        go_wp2_with fail
        go_ret
        exact ⟨ret_boolI (by simp), HB.out⟩
  · by_cases k1 : k = 1
    · subst k1
      go_enter Tryz.func82, Tryz.ntmps82
      go_upto_region 1 with fail
      try rw [hW0]
      clear hW0
      have a0 := HA.out.cell 0 rfl
      have a1 := HA.out.cell 1 rfl
      have a2 := HA.out.cell 2 rfl
      have a3 := HA.out.cell 3 rfl
      have a4 := HA.out.cell 4 rfl
      go_wp2_with fail
      go_ret
      exact ⟨ret_boolI (by simp), HB.out⟩
    · have q1 : (k == 1) = false := by simpa using k1
      rw [if_neg k1]
      clear k1
      by_cases k4 : k = 3
      · subst k4
        go_enter Tryz.func82, Tryz.ntmps82
        go_upto_region 1 with fail
        try rw [hW0]
        clear hW0
        have a0 := HA.out.cell 0 rfl
        have a1 := HA.out.cell 1 rfl
        have a2 := HA.out.cell 2 rfl
        have a3 := HA.out.cell 3 rfl
        have a4 := HA.out.cell 4 rfl
        go_wp2_with fail
        go_ret
        exact ⟨ret_boolI (by simp), HB.out⟩
      · have q4 : (k == 3) = false := by simpa using k4
        rw [decide_eq_false k4]
        clear k4
        go_enter Tryz.func82, Tryz.ntmps82
        go_upto_region 1 with fail
        try rw [hW0]
        clear hW0
        have a0 := HA.out.cell 0 rfl
        have a1 := HA.out.cell 1 rfl
        have a2 := HA.out.cell 2 rfl
        have a3 := HA.out.cell 3 rfl
        have a4 := HA.out.cell 4 rfl
        go_wp2_with fail
        go_ret
        exact ⟨ret_boolI (by simp), HB.out⟩
  · by_cases k1 : k = 1
    · subst k1
      go_enter Tryz.func82, Tryz.ntmps82
      go_upto_region 1 with fail
      try rw [hW0]
      clear hW0
      have a0 := HA.out.cell 0 rfl
      have a1 := HA.out.cell 1 rfl
      have a2 := HA.out.cell 2 rfl
      have a3 := HA.out.cell 3 rfl
      have a4 := HA.out.cell 4 rfl
      go_wp2_with fail
      go_ret
      exact ⟨ret_boolI (by simp), HB.out⟩
    · have q1 : (k == 1) = false := by simpa using k1
      rw [if_neg k1]
      clear k1
      by_cases k4 : k = 2
      · subst k4
        go_enter Tryz.func82, Tryz.ntmps82
        go_upto_region 1 with fail
        try rw [hW0]
        clear hW0
        have a0 := HA.out.cell 0 rfl
        have a1 := HA.out.cell 1 rfl
        have a2 := HA.out.cell 2 rfl
        have a3 := HA.out.cell 3 rfl
        have a4 := HA.out.cell 4 rfl
        go_wp2_with fail
        go_ret
        exact ⟨ret_boolI (by simp), HB.out⟩
      · have q4 : (k == 2) = false := by simpa using k4
        rw [decide_eq_false k4]
        clear k4
        go_enter Tryz.func82, Tryz.ntmps82
        go_upto_region 1 with fail
        try rw [hW0]
        clear hW0
        have a0 := HA.out.cell 0 rfl
        have a1 := HA.out.cell 1 rfl
        have a2 := HA.out.cell 2 rfl
        have a3 := HA.out.cell 3 rfl
        have a4 := HA.out.cell 4 rfl
        go_wp2_with fail
        go_ret
        exact ⟨ret_boolI (by simp), HB.out⟩
end Go.Proofs.YtanemojiaahbgaaGreatDoor
