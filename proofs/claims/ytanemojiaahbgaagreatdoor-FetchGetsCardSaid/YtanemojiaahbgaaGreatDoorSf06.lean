import Derived.Test.YtanemojiaahbgaaGreatDoorSf05
import Derived.Test.YtanemojiaahbgaaGreatDoorSf04
section
/- May a value be what a letter says? refs.may; walked. -/
set_option linter.unusedSimpArgs false
set_option linter.unusedVariables false
namespace Go.Proofs.YtanemojiaahbgaaGreatDoor
open Go Go.RowKit Go.OpenShut

/-- May a value be what a letter says? -/
def mayK (c : Nat) (t : JV) : Bool :=
  if t.k = 1 then decide (c ≠ 105) && decide (c ≠ 115) && decide (c ≠ 118)
  else if c = 105 ∨ c = 73 then decide (t.k = 4) && idB t.s
  else if c = 115 then decide (t.k = 4)
  else if c = 119 then true
  else if c = 108 then decide (t.k = 5) && t.l.all (fun x => decide (x.k = 4) && idB x.s)
  else if c = 116 then decide (t.k = 5) && t.l.all (fun x => decide (x.k = 4) && true)
  else if c = 110 then decide (t.k = 3) && decide (0 ≤ t.n)
  else if c = 112 then decide (t.k = 3) && decide (1 ≤ t.n)
  else if c = 122 then decide (t.k = 3)
  else if c = 98 then decide (t.k = 2)
  else false
/-- The letters. -/
def letters : List Nat := [105, 73, 115, 108, 116, 119, 110, 112, 122, 98]
theorem TreeOf.head {w : World} {B : Nat} {t : JV} {r : RV} (h : TreeOf w B t r) : t.k = r.k ∧ t.n = r.n ∧ t.s = r.s := by
  cases h with
  | mk hl el hcl hm em hcn hcm => exact ⟨rfl, rfl, rfl⟩
theorem TreeOf.lst {w : World} {B : Nat} {t : JV} {r : RV} (h : TreeOf w B t r) : ∃ rs, Rd w B encV 5 (.slice r.pl r.nl r.cl) rs ∧ t.l.length = rs.length ∧ ∀ (i : Nat) x q, t.l[i]? = some x → rs[i]? = some q → TreeOf w B x q := by
  cases h with
  | mk hl el hcl hm em hcn hcm => exact ⟨_, hl, el, hcl⟩
theorem all_same {l : List JV} {rs : List RV} {p : JV → Bool} {q : RV → Bool} (hlen : l.length = rs.length) (h : ∀ (i : Nat) x y, l[i]? = some x → rs[i]? = some y → p x = q y) : l.all p = rs.all q := by
  induction l generalizing rs with
  | nil => cases rs with
    | nil => rfl
    | cons a b => simp at hlen
  | cons a l ih => cases rs with
    | nil => simp at hlen
    | cons b rs =>
      rw [List.all_cons, List.all_cons, h 0 a b rfl rfl, ih (by simpa using hlen) (fun i x y h1 h2 => h (i + 1) x y (by simpa using h1) (by simpa using h2))]
theorem JV.Ok.at_l {t : JV} (h : t.Ok) {i : Nat} {x : JV} (hx : t.l[i]? = some x) : x.Ok := by
  cases h with
  | mk _ _ _ _ _ cl _ _ => exact cl i x hx
theorem JV.Ok.s_le {t : JV} (h : t.Ok) : t.s.size ≤ 140737488351232 ∧ t.l.length ≤ 1759218604390 := by
  cases h with
  | mk _ _ hs hl _ _ _ _ => exact ⟨hs, hl⟩

set_option maxRecDepth 100000 in
set_option maxHeartbeats 8000000 in
theorem refsMay_any (c : Nat) (t : JV) (r : RV) (w : World) (hc : c ∈ letters) (ht : TreeOf w w.heap.size t r) (ot : t.Ok) :
    Calls Tryz.prog 77 #[.int .u8 (c : Int), r.val] w fun e w' => e = .returned (.bool (mayK c t)) ∧ Below w.heap.size w w' := by
  obtain ⟨hk, hn, hs⟩ := ht.head
  obtain ⟨rs, hl, hlen, hsub⟩ := ht.lst
  have hsz := ot.s_le
  have hrs : ∀ (i : Nat) x, rs[i]? = some x → x.s.size ≤ maxLen := fun i x hx => by
    obtain ⟨y, hy⟩ : ∃ y, t.l[i]? = some y := ⟨_, List.getElem?_eq_getElem (by rw [hlen]; exact (List.getElem?_eq_some_iff.1 hx).1)⟩
    have h1 := (hsub i y x hy hx).head
    have h2 := (ot.at_l hy).s_le
    rw [← h1.2.2]; unfold maxLen; omega
  have hall1 : t.l.all (fun x => decide (x.k = 4) && idB x.s) = rs.all (fun x => decide (x.k = 4) && idB x.s) := all_same hlen (fun i x y h1 h2 => by have h := (hsub i x y h1 h2).head; rw [h.1, h.2.2])
  have hall2 : t.l.all (fun x => decide (x.k = 4) && true) = rs.all (fun x => decide (x.k = 4) && true) := all_same hlen (fun i x y h1 h2 => by have h := (hsub i x y h1 h2).head; rw [h.1])
  have hB : Below w.heap.size w (w.alloc r.obj) := (Below.refl _ _).alloc (Nat.le_refl _) _
  have hA : VAt (w.alloc r.obj) w.heap.size r := heap_alloc_at rfl
  have HID : Hid (∀ W, Calls Tryz.prog 96 #[.string r.s] W fun e w' => e = .returned (.bool (idB r.s)) ∧ w' = W) := fun W => identIs_any r.s W (by rw [← hs]; unfold maxLen; omega)
  have HT1 : Hid (∀ W, Below w.heap.size w W → Calls Tryz.prog 97 #[r.val, .func (.func 96) #[] #[]] W fun e w' => e = .returned (.bool (decide (r.k = 5) && rs.all (fun x => decide (x.k = 4) && idB x.s))) ∧ Below W.heap.size W w') := fun W hb => textsId_any r W rs (hl.below hb hb.size) (by omega) hrs
  have HT2 : Hid (∀ W, Below w.heap.size w W → Calls Tryz.prog 97 #[r.val, .func (.func 100) #[] #[]] W fun e w' => e = .returned (.bool (decide (r.k = 5) && rs.all (fun x => decide (x.k = 4) && true))) ∧ Below W.heap.size W w') := fun W hb => textsTx_any r W rs (hl.below hb hb.size) (by omega) hrs
  unfold mayK
  rw [hk, hn, hs, hall1, hall2]
  obtain ⟨b1, hb1⟩ : ∃ b, rs.all (fun x => decide (x.k = 4) && idB x.s) = b := ⟨_, rfl⟩
  obtain ⟨b2, hb2⟩ : ∃ b, rs.all (fun x => decide (x.k = 4) && true) = b := ⟨_, rfl⟩
  obtain ⟨b0, hb0⟩ : ∃ b, idB r.s = b := ⟨_, rfl⟩
  rw [hb1] at HT1 ⊢
  rw [hb2] at HT2 ⊢
  rw [hb0] at HID ⊢
  clear hb0 hb1 hb2 hall1 hall2 hrs hsz hlen hsub hl ot ht hk hn hs
  obtain ⟨k, n, s, pl, nl, cl, pm, nm, cm⟩ := r
  dsimp only [RV.val, RV.obj] at *
  obtain ⟨W0, hW0⟩ : ∃ W, w.alloc (.cells #[.int .i64 k, .int .i64 n, .string s, .slice pl nl cl, .slice pm nm cm] 31) = W := ⟨_, rfl⟩
  rw [hW0] at hB hA
  have HB := Lib.hid hB
  have HA := Lib.hid hA
  clear hB hA
  simp only [letters, List.mem_cons, List.not_mem_nil, or_false] at hc
  rcases hc with rfl | rfl | rfl | rfl | rfl | rfl | rfl | rfl | rfl | rfl
  · by_cases k1 : k = 1
    · subst k1
      go_enter Tryz.func77, Tryz.ntmps77
      go_upto_region 1 with fail
      try rw [hW0]
      clear hW0
      have a0 := HA.out.cell 0 rfl
      have a1 := HA.out.cell 1 rfl
      have a2 := HA.out.cell 2 rfl
      have a3 := HA.out.cell 3 rfl
      have a4 := HA.out.cell 4 rfl
      go_wp2_with fail
      go_ret
      exact ⟨ret_boolI (by simp), HB.out⟩
    · have q1 : (k == 1) = false := by simpa using k1
      rw [if_neg k1]
      clear k1
      by_cases k4 : k = 4
      · subst k4
        go_enter Tryz.func77, Tryz.ntmps77
        go_upto_region 1 with fail
        try rw [hW0]
        clear hW0
        have a0 := HA.out.cell 0 rfl
        have a1 := HA.out.cell 1 rfl
        have a2 := HA.out.cell 2 rfl
        have a3 := HA.out.cell 3 rfl
        have a4 := HA.out.cell 4 rfl
        go_wp2_with (go_at_call 96; refine (HID.out _).mono ?_; rintro e w1 ⟨rfl, rfl⟩)
        go_ret
        exact ⟨ret_boolI (by simp), HB.out⟩
      · have q4 : (k == 4) = false := by simpa using k4
        rw [decide_eq_false k4]
        clear k4
        go_enter Tryz.func77, Tryz.ntmps77
        go_upto_region 1 with fail
        try rw [hW0]
        clear hW0
        have a0 := HA.out.cell 0 rfl
        have a1 := HA.out.cell 1 rfl
        have a2 := HA.out.cell 2 rfl
        have a3 := HA.out.cell 3 rfl
        have a4 := HA.out.cell 4 rfl
        go_wp2_with fail
        go_ret
        exact ⟨ret_boolI (by simp), HB.out⟩
  · by_cases k1 : k = 1
    · subst k1
      go_enter Tryz.func77, Tryz.ntmps77
      go_upto_region 1 with fail
      try rw [hW0]
      clear hW0
      have a0 := HA.out.cell 0 rfl
      have a1 := HA.out.cell 1 rfl
      have a2 := HA.out.cell 2 rfl
      have a3 := HA.out.cell 3 rfl
      have a4 := HA.out.cell 4 rfl
      go_wp2_with fail
      go_ret
      exact ⟨ret_boolI (by simp), HB.out⟩
    · have q1 : (k == 1) = false := by simpa using k1
      rw [if_neg k1]
      clear k1
      by_cases k4 : k = 4
      · subst k4
        go_enter Tryz.func77, Tryz.ntmps77
        go_upto_region 1 with fail
        try rw [hW0]
        clear hW0
        have a0 := HA.out.cell 0 rfl
        have a1 := HA.out.cell 1 rfl
        have a2 := HA.out.cell 2 rfl
        have a3 := HA.out.cell 3 rfl
        have a4 := HA.out.cell 4 rfl
        go_wp2_with (go_at_call 96; refine (HID.out _).mono ?_; rintro e w1 ⟨rfl, rfl⟩)
        go_ret
        exact ⟨ret_boolI (by simp), HB.out⟩
      · have q4 : (k == 4) = false := by simpa using k4
        rw [decide_eq_false k4]
        clear k4
        go_enter Tryz.func77, Tryz.ntmps77
        go_upto_region 1 with fail
        try rw [hW0]
        clear hW0
        have a0 := HA.out.cell 0 rfl
        have a1 := HA.out.cell 1 rfl
        have a2 := HA.out.cell 2 rfl
        have a3 := HA.out.cell 3 rfl
        have a4 := HA.out.cell 4 rfl
        go_wp2_with fail
        go_ret
        exact ⟨ret_boolI (by simp), HB.out⟩
  · by_cases k1 : k = 1
    · subst k1
      go_enter Tryz.func77, Tryz.ntmps77
      go_upto_region 1 with fail
      try rw [hW0]
      clear hW0
      have a0 := HA.out.cell 0 rfl
      have a1 := HA.out.cell 1 rfl
      have a2 := HA.out.cell 2 rfl
      have a3 := HA.out.cell 3 rfl
      have a4 := HA.out.cell 4 rfl
      go_wp2_with fail
      go_ret
      exact ⟨ret_boolI (by simp), HB.out⟩
    · have q1 : (k == 1) = false := by simpa using k1
      rw [if_neg k1]
      clear k1
      by_cases k4 : k = 4
      · subst k4
        go_enter Tryz.func77, Tryz.ntmps77
        go_upto_region 1 with fail
        try rw [hW0]
        clear hW0
        have a0 := HA.out.cell 0 rfl
        have a1 := HA.out.cell 1 rfl
        have a2 := HA.out.cell 2 rfl
        have a3 := HA.out.cell 3 rfl
        have a4 := HA.out.cell 4 rfl
        go_wp2_with fail
        go_ret
        exact ⟨ret_boolI (by simp), HB.out⟩
      · have q4 : (k == 4) = false := by simpa using k4
        rw [decide_eq_false k4]
        clear k4
        go_enter Tryz.func77, Tryz.ntmps77
        go_upto_region 1 with fail
        try rw [hW0]
        clear hW0
        have a0 := HA.out.cell 0 rfl
        have a1 := HA.out.cell 1 rfl
        have a2 := HA.out.cell 2 rfl
        have a3 := HA.out.cell 3 rfl
        have a4 := HA.out.cell 4 rfl
        go_wp2_with fail
        go_ret
        exact ⟨ret_boolI (by simp), HB.out⟩
  · by_cases k1 : k = 1
    · subst k1
      go_enter Tryz.func77, Tryz.ntmps77
      go_upto_region 1 with fail
      try rw [hW0]
      clear hW0
      have a0 := HA.out.cell 0 rfl
      have a1 := HA.out.cell 1 rfl
      have a2 := HA.out.cell 2 rfl
      have a3 := HA.out.cell 3 rfl
      have a4 := HA.out.cell 4 rfl
      go_wp2_with fail
      go_ret
      exact ⟨ret_boolI (by simp), HB.out⟩
    · have q1 : (k == 1) = false := by simpa using k1
      rw [if_neg k1]
      clear k1
      go_enter Tryz.func77, Tryz.ntmps77
      go_upto_region 1 with fail
      try rw [hW0]
      clear hW0
      have a0 := HA.out.cell 0 rfl
      have a1 := HA.out.cell 1 rfl
      have a2 := HA.out.cell 2 rfl
      have a3 := HA.out.cell 3 rfl
      have a4 := HA.out.cell 4 rfl
      go_wp2_with (go_at_call 97; refine (HT1.out _ HB.out).mono ?_; rintro e w1 ⟨rfl, hb1⟩)
      go_ret
      exact ⟨ret_boolI (by simp), HB.out.trans (hb1.mono HB.out.size)⟩
  · by_cases k1 : k = 1
    · subst k1
      go_enter Tryz.func77, Tryz.ntmps77
      go_upto_region 1 with fail
      try rw [hW0]
      clear hW0
      have a0 := HA.out.cell 0 rfl
      have a1 := HA.out.cell 1 rfl
      have a2 := HA.out.cell 2 rfl
      have a3 := HA.out.cell 3 rfl
      have a4 := HA.out.cell 4 rfl
      go_wp2_with fail
      go_ret
      exact ⟨ret_boolI (by simp), HB.out⟩
    · have q1 : (k == 1) = false := by simpa using k1
      rw [if_neg k1]
      clear k1
      go_enter Tryz.func77, Tryz.ntmps77
      go_upto_region 1 with fail
      try rw [hW0]
      clear hW0
      have a0 := HA.out.cell 0 rfl
      have a1 := HA.out.cell 1 rfl
      have a2 := HA.out.cell 2 rfl
      have a3 := HA.out.cell 3 rfl
      have a4 := HA.out.cell 4 rfl
      go_wp2_with (go_at_call 97; refine (HT2.out _ HB.out).mono ?_; rintro e w1 ⟨rfl, hb1⟩)
      go_ret
      exact ⟨ret_boolI (by simp), HB.out.trans (hb1.mono HB.out.size)⟩
  · by_cases k1 : k = 1
    · subst k1
      go_enter Tryz.func77, Tryz.ntmps77
      go_upto_region 1 with fail
      try rw [hW0]
      clear hW0
      have a0 := HA.out.cell 0 rfl
      have a1 := HA.out.cell 1 rfl
      have a2 := HA.out.cell 2 rfl
      have a3 := HA.out.cell 3 rfl
      have a4 := HA.out.cell 4 rfl
      go_wp2_with fail
      go_ret
      exact ⟨ret_boolI (by simp), HB.out⟩
    · have q1 : (k == 1) = false := by simpa using k1
      rw [if_neg k1]
      clear k1
      go_enter Tryz.func77, Tryz.ntmps77
      go_upto_region 1 with fail
      try rw [hW0]
      clear hW0
      have a0 := HA.out.cell 0 rfl
      have a1 := HA.out.cell 1 rfl
      have a2 := HA.out.cell 2 rfl
      have a3 := HA.out.cell 3 rfl
      have a4 := HA.out.cell 4 rfl
      go_wp2_with fail
      go_ret
      exact ⟨ret_boolI (by simp), HB.out⟩
  · by_cases k1 : k = 1
    · subst k1
      go_enter Tryz.func77, Tryz.ntmps77
      go_upto_region 1 with fail
      try rw [hW0]
      clear hW0
      have a0 := HA.out.cell 0 rfl
      have a1 := HA.out.cell 1 rfl
      have a2 := HA.out.cell 2 rfl
      have a3 := HA.out.cell 3 rfl
      have a4 := HA.out.cell 4 rfl
      go_wp2_with fail
      go_ret
      exact ⟨ret_boolI (by simp), HB.out⟩
    · have q1 : (k == 1) = false := by simpa using k1
      rw [if_neg k1]
      clear k1
      by_cases k4 : k = 3
      · subst k4
        by_cases hn : 0 ≤ n
        · have q5 : decide (0 ≤ n) = true := decide_eq_true hn
          rw [q5]
          go_enter Tryz.func77, Tryz.ntmps77
          go_upto_region 1 with fail
          try rw [hW0]
          clear hW0
          have a0 := HA.out.cell 0 rfl
          have a1 := HA.out.cell 1 rfl
          have a2 := HA.out.cell 2 rfl
          have a3 := HA.out.cell 3 rfl
          have a4 := HA.out.cell 4 rfl
          go_wp2_with fail
          go_ret
          exact ⟨ret_boolI (by simp), HB.out⟩
        · have q5 : decide (0 ≤ n) = false := decide_eq_false hn
          rw [q5]
          go_enter Tryz.func77, Tryz.ntmps77
          go_upto_region 1 with fail
          try rw [hW0]
          clear hW0
          have a0 := HA.out.cell 0 rfl
          have a1 := HA.out.cell 1 rfl
          have a2 := HA.out.cell 2 rfl
          have a3 := HA.out.cell 3 rfl
          have a4 := HA.out.cell 4 rfl
          go_wp2_with fail
          go_ret
          exact ⟨ret_boolI (by simp), HB.out⟩
      · have q4 : (k == 3) = false := by simpa using k4
        rw [decide_eq_false k4]
        clear k4
        go_enter Tryz.func77, Tryz.ntmps77
        go_upto_region 1 with fail
        try rw [hW0]
        clear hW0
        have a0 := HA.out.cell 0 rfl
        have a1 := HA.out.cell 1 rfl
        have a2 := HA.out.cell 2 rfl
        have a3 := HA.out.cell 3 rfl
        have a4 := HA.out.cell 4 rfl
        go_wp2_with fail
        go_ret
        exact ⟨ret_boolI (by simp), HB.out⟩
  · by_cases k1 : k = 1
    · subst k1
      go_enter Tryz.func77, Tryz.ntmps77
      go_upto_region 1 with fail
      try rw [hW0]
      clear hW0
      have a0 := HA.out.cell 0 rfl
      have a1 := HA.out.cell 1 rfl
      have a2 := HA.out.cell 2 rfl
      have a3 := HA.out.cell 3 rfl
      have a4 := HA.out.cell 4 rfl
      go_wp2_with fail
      go_ret
      exact ⟨ret_boolI (by simp), HB.out⟩
    · have q1 : (k == 1) = false := by simpa using k1
      rw [if_neg k1]
      clear k1
      by_cases k4 : k = 3
      · subst k4
        by_cases hn : 1 ≤ n
        · have q5 : decide (1 ≤ n) = true := decide_eq_true hn
          rw [q5]
          go_enter Tryz.func77, Tryz.ntmps77
          go_upto_region 1 with fail
          try rw [hW0]
          clear hW0
          have a0 := HA.out.cell 0 rfl
          have a1 := HA.out.cell 1 rfl
          have a2 := HA.out.cell 2 rfl
          have a3 := HA.out.cell 3 rfl
          have a4 := HA.out.cell 4 rfl
          go_wp2_with fail
          go_ret
          exact ⟨ret_boolI (by simp), HB.out⟩
        · have q5 : decide (1 ≤ n) = false := decide_eq_false hn
          rw [q5]
          go_enter Tryz.func77, Tryz.ntmps77
          go_upto_region 1 with fail
          try rw [hW0]
          clear hW0
          have a0 := HA.out.cell 0 rfl
          have a1 := HA.out.cell 1 rfl
          have a2 := HA.out.cell 2 rfl
          have a3 := HA.out.cell 3 rfl
          have a4 := HA.out.cell 4 rfl
          go_wp2_with fail
          go_ret
          exact ⟨ret_boolI (by simp), HB.out⟩
      · have q4 : (k == 3) = false := by simpa using k4
        rw [decide_eq_false k4]
        clear k4
        go_enter Tryz.func77, Tryz.ntmps77
        go_upto_region 1 with fail
        try rw [hW0]
        clear hW0
        have a0 := HA.out.cell 0 rfl
        have a1 := HA.out.cell 1 rfl
        have a2 := HA.out.cell 2 rfl
        have a3 := HA.out.cell 3 rfl
        have a4 := HA.out.cell 4 rfl
        go_wp2_with fail
        go_ret
        exact ⟨ret_boolI (by simp), HB.out⟩
  · by_cases k1 : k = 1
    · subst k1
      go_enter Tryz.func77, Tryz.ntmps77
      go_upto_region 1 with fail
      try rw [hW0]
      clear hW0
      have a0 := HA.out.cell 0 rfl
      have a1 := HA.out.cell 1 rfl
      have a2 := HA.out.cell 2 rfl
      have a3 := HA.out.cell 3 rfl
      have a4 := HA.out.cell 4 rfl
      go_wp2_with fail
      go_ret
      exact ⟨ret_boolI (by simp), HB.out⟩
    · have q1 : (k == 1) = false := by simpa using k1
      rw [if_neg k1]
      clear k1
      by_cases k4 : k = 3
      · subst k4
        go_enter Tryz.func77, Tryz.ntmps77
        go_upto_region 1 with fail
        try rw [hW0]
        clear hW0
        have a0 := HA.out.cell 0 rfl
        have a1 := HA.out.cell 1 rfl
        have a2 := HA.out.cell 2 rfl
        have a3 := HA.out.cell 3 rfl
        have a4 := HA.out.cell 4 rfl
        go_wp2_with fail
        go_ret
        exact ⟨ret_boolI (by simp), HB.out⟩
      · have q4 : (k == 3) = false := by simpa using k4
        rw [decide_eq_false k4]
        clear k4
        go_enter Tryz.func77, Tryz.ntmps77
        go_upto_region 1 with fail
        try rw [hW0]
        clear hW0
        have a0 := HA.out.cell 0 rfl
        have a1 := HA.out.cell 1 rfl
        have a2 := HA.out.cell 2 rfl
        have a3 := HA.out.cell 3 rfl
        have a4 := HA.out.cell 4 rfl
        go_wp2_with fail
        go_ret
        exact ⟨ret_boolI (by simp), HB.out⟩
  · by_cases k1 : k = 1
    · subst k1
      go_enter Tryz.func77, Tryz.ntmps77
      go_upto_region 1 with fail
      try rw [hW0]
      clear hW0
      have a0 := HA.out.cell 0 rfl
      have a1 := HA.out.cell 1 rfl
      have a2 := HA.out.cell 2 rfl
      have a3 := HA.out.cell 3 rfl
      have a4 := HA.out.cell 4 rfl
      go_wp2_with fail
      go_ret
      exact ⟨ret_boolI (by simp), HB.out⟩
    · have q1 : (k == 1) = false := by simpa using k1
      rw [if_neg k1]
      clear k1
      by_cases k4 : k = 2
      · subst k4
        go_enter Tryz.func77, Tryz.ntmps77
        go_upto_region 1 with fail
        try rw [hW0]
        clear hW0
        have a0 := HA.out.cell 0 rfl
        have a1 := HA.out.cell 1 rfl
        have a2 := HA.out.cell 2 rfl
        have a3 := HA.out.cell 3 rfl
        have a4 := HA.out.cell 4 rfl
        go_wp2_with fail
        go_ret
        exact ⟨ret_boolI (by simp), HB.out⟩
      · have q4 : (k == 2) = false := by simpa using k4
        rw [decide_eq_false k4]
        clear k4
        go_enter Tryz.func77, Tryz.ntmps77
        go_upto_region 1 with fail
        try rw [hW0]
        clear hW0
        have a0 := HA.out.cell 0 rfl
        have a1 := HA.out.cell 1 rfl
        have a2 := HA.out.cell 2 rfl
        have a3 := HA.out.cell 3 rfl
        have a4 := HA.out.cell 4 rfl
        go_wp2_with fail
        go_ret
        exact ⟨ret_boolI (by simp), HB.out⟩
end Go.Proofs.YtanemojiaahbgaaGreatDoor
end

section
/- Trees that lie in the call's own memory, each part by itself. -/
set_option linter.unusedSimpArgs false
set_option linter.unusedVariables false
namespace Go.Proofs.YtanemojiaahbgaaGreatDoor
open Go.RowKit Go.OpenShut

section
variable {α : Type} {e : TypeId} {enc : α → List Value} {sz : Nat}
theorem Own.same {w w' : World} {base : Nat} {v : Value} {xs : List α} (h : Own w base e enc sz v xs) (hk : ∀ k, v.ownBlock = some k → w'.heap[k]? = w.heap[k]?) : Own w' base e enc sz v xs := by
  obtain ⟨hl, h⟩ := h
  refine ⟨hl, ?_⟩
  rcases h with h | ⟨g, cap, cur, rfl, hg, hh, r⟩
  · exact .inl h
  · exact .inr ⟨g, cap, cur, rfl, hg, (hk g rfl).trans hh, r⟩
end

/-- A whole value stored into a list of the call's own. -/
theorem Own.storedL {w : World} {base : Nat} {g n cap : Nat} {xs : List RV} (h : Own w base 31 encV 5 (.slice (some ⟨g, 0, none⟩) n cap) xs) {k : Nat} {x : RV} (hx : xs[k]? = some x) (q : RV) :
    Own (((((w.setCell ⟨g, k * 5, none⟩ (.int .i64 q.k)).setCell ⟨g, k * 5 + 1, none⟩ (.int .i64 q.n)).setCell ⟨g, k * 5 + 2, none⟩ (.string q.s)).setCell ⟨g, k * 5 + 3, none⟩ (.slice q.pl q.nl q.cl)).setCell ⟨g, k * 5 + 4, none⟩ (.slice q.pm q.nm q.cm)) base 31 encV 5 (.slice (some ⟨g, 0, none⟩) n cap) (xs.set k q) ∧
    w.grownBy (((((w.setCell ⟨g, k * 5, none⟩ (.int .i64 q.k)).setCell ⟨g, k * 5 + 1, none⟩ (.int .i64 q.n)).setCell ⟨g, k * 5 + 2, none⟩ (.string q.s)).setCell ⟨g, k * 5 + 3, none⟩ (.slice q.pl q.nl q.cl)).setCell ⟨g, k * 5 + 4, none⟩ (.slice q.pm q.nm q.cm)) (some g) := by
  have hk := (List.getElem?_eq_some_iff.1 hx).1
  have gs : ∀ (ys : List RV) (y : RV), k < ys.length → (ys.set k y)[k]? = some y := fun ys y hy => by simp [List.getElem?_set, hy]
  have s1 := Own.storedAt codecV h (j := 0) (y := { x with k := q.k }) (u := .int .i64 q.k) hx (by decide) rfl
  have s2 := Own.storedAt codecV s1.1 (j := 1) (y := { x with k := q.k, n := q.n }) (u := .int .i64 q.n) (gs _ _ hk) (by decide) rfl
  have s3 := Own.storedAt codecV s2.1 (j := 2) (y := { x with k := q.k, n := q.n, s := q.s }) (u := .string q.s) (gs _ _ (by simpa using hk)) (by decide) rfl
  have s4 := Own.storedAt codecV s3.1 (j := 3) (y := { x with k := q.k, n := q.n, s := q.s, pl := q.pl, nl := q.nl, cl := q.cl }) (u := .slice q.pl q.nl q.cl) (gs _ _ (by simpa using hk)) (by decide) rfl
  have s5 := Own.storedAt codecV s4.1 (j := 4) (y := q) (u := .slice q.pm q.nm q.cm) (gs _ _ (by simpa using hk)) (by decide) rfl
  simp only [List.set_set, Nat.add_zero] at s5 s4 s3 s2 s1
  exact ⟨s5.1, (((s1.2.trans s2.2).trans s3.2).trans s4.2).trans s5.2⟩

/-- The cells r read as the tree t; its lists are the call's own, each in a block of its own; all blocks are among S. -/
inductive LoneV (w : World) : (Nat → Prop) → JV → RV → Prop
  | mk {S : Nat → Prop} {r : RV} {l : List JV} {m : List (ByteArray × JV)} {rs : List RV} {rms : List RM} (F : Nat ⊕ Nat → Nat → Prop)
      (hl : Own w 0 31 encV 5 (.slice r.pl r.nl r.cl) rs) (hm : Own w 0 48 encM 6 (.slice r.pm r.nm r.cm) rms)
      (sl : ∀ k, (Value.slice r.pl r.nl r.cl).ownBlock = some k → S k) (sm : ∀ k, (Value.slice r.pm r.nm r.cm).ownBlock = some k → S k)
      (dr : ∀ k, (Value.slice r.pl r.nl r.cl).ownBlock = some k → (Value.slice r.pm r.nm r.cm).ownBlock ≠ some k)
      (el : l.length = rs.length) (em : m.length = rms.length)
      (cn : ∀ (i : Nat) (p : ByteArray × JV) (q : RM), m[i]? = some p → rms[i]? = some q → p.1 = q.name)
      (cl : ∀ (i : Nat) (t : JV) (q : RV), l[i]? = some t → rs[i]? = some q → LoneV w (F (.inl i)) t q)
      (cm : ∀ (i : Nat) (p : ByteArray × JV) (q : RM), m[i]? = some p → rms[i]? = some q → LoneV w (F (.inr i)) p.2 q.v)
      (ff : ∀ a k, F a k → S k ∧ (Value.slice r.pl r.nl r.cl).ownBlock ≠ some k ∧ (Value.slice r.pm r.nm r.cm).ownBlock ≠ some k)
      (dd : ∀ a b k, F a k → F b k → a = b) : LoneV w S (.mk r.k r.n r.s l m) r

theorem LoneV.same {w w' : World} {S : Nat → Prop} {t : JV} {r : RV} (h : LoneV w S t r) (hk : ∀ k, S k → w'.heap[k]? = w.heap[k]?) : LoneV w' S t r := by
  induction h with
  | mk F hl hm sl sm dr el em cn cl cm ff dd ih1 ih2 =>
    exact .mk F (hl.same fun k e => hk k (sl k e)) (hm.same fun k e => hk k (sm k e)) sl sm dr el em cn
      (fun i t q h1 h2 => ih1 i t q h1 h2 fun k hf => hk k (ff _ k hf).1) (fun i p q h1 h2 => ih2 i p q h1 h2 fun k hf => hk k (ff _ k hf).1) ff dd
theorem LoneV.mono {w : World} {S S' : Nat → Prop} {t : JV} {r : RV} (h : LoneV w S t r) (hs : ∀ k, S k → S' k) : LoneV w S' t r := by
  cases h with
  | mk F hl hm sl sm dr el em cn cl cm ff dd =>
    exact .mk F hl hm (fun k e => hs k (sl k e)) (fun k e => hs k (sm k e)) dr el em cn cl cm (fun a k hf => ⟨hs k (ff a k hf).1, (ff a k hf).2⟩) dd
theorem LoneV.under {w w' : World} {S : Nat → Prop} {B : Nat} {t : JV} {r : RV} (h : LoneV w S t r) (hb : Below B w w') (hs : ∀ k, S k → k < B) : LoneV w' S t r := h.same fun k hk => hb.block k (hs k hk)
theorem LoneV.tree {w : World} {S : Nat → Prop} {t : JV} {r : RV} (h : LoneV w S t r) : TreeOf w w.heap.size t r := by
  induction h with
  | mk F hl hm sl sm dr el em cn cl cm ff dd ih1 ih2 => exact .mk (hl.rd codecV) el ih1 (hm.rd codecM) em cn ih2
/-- Blocks that are new behind the call. -/
def Fresh (w w' : World) (k : Nat) : Prop := w.heap.size ≤ k ∧ k < w'.heap.size

/-- A value in a box, its lists the call's own, its parts in blocks of their own. -/
structure Parts (W : World) (b0 g : Nat) (D : Nat ⊕ Nat → Prop) (l : List JV) (m : List (ByteArray × JV)) (ds : List RV) (dms : List RM) (r : RV) (F : Nat ⊕ Nat → Nat → Prop) : Prop where
  box : VAt W g r
  ownL : Own W b0 31 encV 5 (.slice r.pl r.nl r.cl) ds
  ownM : Own W b0 48 encM 6 (.slice r.pm r.nm r.cm) dms
  bL : ∀ k, (Value.slice r.pl r.nl r.cl).ownBlock = some k → k ≠ g
  bM : ∀ k, (Value.slice r.pm r.nm r.cm).ownBlock = some k → k ≠ g
  dr : ∀ k, (Value.slice r.pl r.nl r.cl).ownBlock = some k → (Value.slice r.pm r.nm r.cm).ownBlock ≠ some k
  los : b0 ≤ W.heap.size
  el : l.length = ds.length
  em : m.length = dms.length
  cn : ∀ (i : Nat) (p : ByteArray × JV) (q : RM), m[i]? = some p → dms[i]? = some q → p.1 = q.name
  cl : ∀ (i : Nat) (t : JV) (q : RV), D (.inl i) → l[i]? = some t → ds[i]? = some q → LoneV W (F (.inl i)) t q
  cm : ∀ (i : Nat) (p : ByteArray × JV) (q : RM), D (.inr i) → m[i]? = some p → dms[i]? = some q → LoneV W (F (.inr i)) p.2 q.v
  ff : ∀ a k, F a k → (b0 ≤ k ∧ k < W.heap.size) ∧ k ≠ g ∧ (Value.slice r.pl r.nl r.cl).ownBlock ≠ some k ∧ (Value.slice r.pm r.nm r.cm).ownBlock ≠ some k
  dd : ∀ a b k, F a k → F b k → a = b

theorem Parts.drewN {W : World} {b0 g : Nat} {D : Nat ⊕ Nat → Prop} {l : List JV} {m : List (ByteArray × JV)} {ds : List RV} {dms : List RM} {r : RV} {F : Nat ⊕ Nat → Nat → Prop} (h : Parts W b0 g D l m ds dms r F) (n : Nat) : Parts (W.drewN n) b0 g D l m ds dms r F :=
  ⟨h.box, h.ownL, h.ownM, h.bL, h.bM, h.dr, h.los, h.el, h.em, h.cn, fun i t q h1 h2 h3 => (h.cl i t q h1 h2 h3).same fun _ _ => rfl, fun i t q h1 h2 h3 => (h.cm i t q h1 h2 h3).same fun _ _ => rfl, h.ff, h.dd⟩

/-- Behind a call that changed nothing. -/
theorem Parts.below {W W' : World} {b0 g : Nat} {D : Nat ⊕ Nat → Prop} {l : List JV} {m : List (ByteArray × JV)} {ds : List RV} {dms : List RM} {r : RV} {F : Nat ⊕ Nat → Nat → Prop} (h : Parts W b0 g D l m ds dms r F) (hb : Below W.heap.size W W') : Parts W' b0 g D l m ds dms r F :=
  have hs := hb.size
  ⟨h.box.under hb h.box.lt, h.ownL.below hb (Nat.le_refl _), h.ownM.below hb (Nat.le_refl _), h.bL, h.bM, h.dr, Nat.le_trans h.los hs, h.el, h.em, h.cn, fun i t q h1 h2 h3 => (h.cl i t q h1 h2 h3).under hb fun k hk => (h.ff _ k hk).1.2, fun i t q h1 h2 h3 => (h.cm i t q h1 h2 h3).under hb fun k hk => (h.ff _ k hk).1.2, fun a k hk => ⟨⟨(h.ff a k hk).1.1, Nat.lt_of_lt_of_le (h.ff a k hk).1.2 hs⟩, (h.ff a k hk).2⟩, h.dd⟩

theorem get_set_ne {α : Type} (l : List α) {i j : Nat} (x : α) (h : i ≠ j) : (l.set j x)[i]? = l[i]? := by rw [List.getElem?_set_ne (fun e => h e.symm)]

/-- The tree of a part, new, laid into the list of values. -/
theorem Parts.setL {W W1 W2 : World} {b0 g : Nat} {D : Nat ⊕ Nat → Prop} {l : List JV} {m : List (ByteArray × JV)} {ds : List RV} {dms : List RM} {r : RV} {F : Nat ⊕ Nat → Nat → Prop} (h : Parts W b0 g D l m ds dms r F) (hb : Below W.heap.size W W1) {u : JV} {q : RV} (hu : LoneV W1 (Fresh W W1) u q) {j g2 : Nat}
    (hg2 : (Value.slice r.pl r.nl r.cl).ownBlock = some g2) (ho : Own W2 b0 31 encV 5 (.slice r.pl r.nl r.cl) (ds.set j q)) (hg : W1.grownBy W2 (some g2)) (hj : j < ds.length) :
    Parts W2 b0 g (fun a => D a ∨ a = .inl j) (l.set j u) m (ds.set j q) dms r (fun a k => if a = .inl j then Fresh W W1 k else F a k) := by
  have h1 := h.below hb
  have hs := hg.size
  have hbs := hb.size
  have h4 := h.bL g2 hg2
  have h5 := (h.ownL.lt g2 hg2).2
  have h6 := h.box.lt
  have h7 := h.ownL.lt
  have h8 := h.ownM.lt
  have h9 := h.los
  have hsame : ∀ k, k ≠ g2 → k < W1.heap.size → W2.heap[k]? = W1.heap[k]? := fun k hk hk1 => hg.block k hk1 (fun e => hk (by cases e; rfl))
  have hF : ∀ a k, F a k → W2.heap[k]? = W1.heap[k]? := fun a k hk => hsame k (fun e => (h.ff a k hk).2.2.1 (by rw [hg2, e])) (h1.ff a k hk).1.2
  have hQ : ∀ k, Fresh W W1 k → W2.heap[k]? = W1.heap[k]? := fun k hk => hsame k (fun e => by have := hk.1; omega) hk.2
  refine ⟨(hsame g (fun e => h4 e.symm) h1.box.lt).trans h1.box, ho, h1.ownM.same fun k e => hsame k (fun e' => h.dr g2 hg2 (by rw [← e', e])) (h1.ownM.lt k e).2, h.bL, h.bM, h.dr, Nat.le_trans h1.los hs, by rw [List.length_set, List.length_set]; exact h.el, h.em, h.cn, ?_, ?_, ?_, ?_⟩
  · intro i t x hd ht hx
    by_cases hij : i = j
    · subst hij
      rw [List.getElem?_set_self (by rw [h.el]; exact hj)] at ht
      rw [List.getElem?_set_self hj] at hx
      cases ht; cases hx
      simp only [if_true]
      exact hu.same hQ
    · rw [get_set_ne _ _ hij] at ht hx
      have hne : (Sum.inl i : Nat ⊕ Nat) ≠ .inl j := fun e => hij (Sum.inl.inj e)
      simp only [if_neg hne]
      exact (h1.cl i t x (hd.resolve_right hne) ht hx).same (hF _)
  · intro i p x hd ht hx
    have hne : (Sum.inr i : Nat ⊕ Nat) ≠ .inl j := fun e => by cases e
    simp only [if_neg hne]
    exact (h1.cm i p x (hd.resolve_right hne) ht hx).same (hF _)
  · intro a k hk
    split at hk
    · exact ⟨⟨Nat.le_trans h.los hk.1, Nat.lt_of_lt_of_le hk.2 hs⟩, fun e => by have := hk.1; omega, fun e => by have := hk.1; have := (h7 k e).2; omega, fun e => by have := hk.1; have := (h8 k e).2; omega⟩
    · exact ⟨⟨(h1.ff a k hk).1.1, Nat.lt_of_lt_of_le (h1.ff a k hk).1.2 hs⟩, (h1.ff a k hk).2⟩
  · intro a b k ha hb'
    split at ha <;> split at hb'
    · rename_i e1 e2; rw [e1, e2]
    · exact absurd (h.ff b k hb').1.2 (by have := ha.1; omega)
    · exact absurd (h.ff a k ha).1.2 (by have := hb'.1; omega)
    · exact h.dd a b k ha hb'

/-- The tree of a part, new, laid into the list of members. -/
theorem Parts.setM {W W1 W2 : World} {b0 g : Nat} {D : Nat ⊕ Nat → Prop} {l : List JV} {m : List (ByteArray × JV)} {ds : List RV} {dms : List RM} {r : RV} {F : Nat ⊕ Nat → Nat → Prop} (h : Parts W b0 g D l m ds dms r F) (hb : Below W.heap.size W W1) {u : JV} {q : RV} (hu : LoneV W1 (Fresh W W1) u q) {j g2 : Nat} {p : ByteArray × JV} {x : RM}
    (hg2 : (Value.slice r.pm r.nm r.cm).ownBlock = some g2) (hp : m[j]? = some p) (hx : dms[j]? = some x) (ho : Own W2 b0 48 encM 6 (.slice r.pm r.nm r.cm) (dms.set j ⟨x.name, q⟩)) (hg : W1.grownBy W2 (some g2)) :
    Parts W2 b0 g (fun a => D a ∨ a = .inr j) l (m.set j (p.1, u)) ds (dms.set j ⟨x.name, q⟩) r (fun a k => if a = .inr j then Fresh W W1 k else F a k) := by
  have h1 := h.below hb
  have hs := hg.size
  have hbs := hb.size
  have hj : j < dms.length := (List.getElem?_eq_some_iff.1 hx).1
  have h4 := h.bM g2 hg2
  have h5 := (h.ownM.lt g2 hg2).2
  have h6 := h.box.lt
  have h7 := h.ownL.lt
  have h8 := h.ownM.lt
  have h9 := h.los
  have hsame : ∀ k, k ≠ g2 → k < W1.heap.size → W2.heap[k]? = W1.heap[k]? := fun k hk hk1 => hg.block k hk1 (fun e => hk (by cases e; rfl))
  have hF : ∀ a k, F a k → W2.heap[k]? = W1.heap[k]? := fun a k hk => hsame k (fun e => (h.ff a k hk).2.2.2 (by rw [hg2, e])) (h1.ff a k hk).1.2
  have hQ : ∀ k, Fresh W W1 k → W2.heap[k]? = W1.heap[k]? := fun k hk => hsame k (fun e => by have := hk.1; omega) hk.2
  refine ⟨(hsame g (fun e => h4 e.symm) h1.box.lt).trans h1.box, h1.ownL.same fun k e => hsame k (fun e' => h.dr k e (by rw [e', hg2])) (h1.ownL.lt k e).2, ho, h.bL, h.bM, h.dr, Nat.le_trans h1.los hs, h.el, by rw [List.length_set, List.length_set]; exact h.em, ?_, ?_, ?_, ?_, ?_⟩
  · intro i p' x' ht hx'
    by_cases hij : i = j
    · subst hij
      rw [List.getElem?_set_self (by rw [h.em]; exact hj)] at ht
      rw [List.getElem?_set_self hj] at hx'
      cases ht; cases hx'
      exact h.cn i p x hp hx
    · rw [get_set_ne _ _ hij] at ht hx'
      exact h.cn i p' x' ht hx'
  · intro i t x' hd ht hx'
    have hne : (Sum.inl i : Nat ⊕ Nat) ≠ .inr j := fun e => by cases e
    simp only [if_neg hne]
    exact (h1.cl i t x' (hd.resolve_right hne) ht hx').same (hF _)
  · intro i p' x' hd ht hx'
    by_cases hij : i = j
    · subst hij
      rw [List.getElem?_set_self (by rw [h.em]; exact hj)] at ht
      rw [List.getElem?_set_self hj] at hx'
      cases ht; cases hx'
      simp only [if_true]
      exact hu.same hQ
    · rw [get_set_ne _ _ hij] at ht hx'
      have hne : (Sum.inr i : Nat ⊕ Nat) ≠ .inr j := fun e => hij (Sum.inr.inj e)
      simp only [if_neg hne]
      exact (h1.cm i p' x' (hd.resolve_right hne) ht hx').same (hF _)
  · intro a k hk
    split at hk
    · exact ⟨⟨Nat.le_trans h.los hk.1, Nat.lt_of_lt_of_le hk.2 hs⟩, fun e => by have := hk.1; omega, fun e => by have := hk.1; have := (h7 k e).2; omega, fun e => by have := hk.1; have := (h8 k e).2; omega⟩
    · exact ⟨⟨(h1.ff a k hk).1.1, Nat.lt_of_lt_of_le (h1.ff a k hk).1.2 hs⟩, (h1.ff a k hk).2⟩
  · intro a b k ha hb'
    split at ha <;> split at hb'
    · rename_i e1 e2; rw [e1, e2]
    · exact absurd (h.ff b k hb').1.2 (by have := ha.1; omega)
    · exact absurd (h.ff a k ha).1.2 (by have := hb'.1; omega)
    · exact h.dd a b k ha hb'

/-- A value all of whose parts are the call's own. -/
theorem Parts.whole {W : World} {b0 g : Nat} {D : Nat ⊕ Nat → Prop} {l : List JV} {m : List (ByteArray × JV)} {ds : List RV} {dms : List RM} {r : RV} {F : Nat ⊕ Nat → Nat → Prop} (h : Parts W b0 g D l m ds dms r F) (hD : ∀ i, (i < l.length → D (.inl i)) ∧ (i < m.length → D (.inr i))) : LoneV W (fun k => b0 ≤ k ∧ k < W.heap.size) (.mk r.k r.n r.s l m) r :=
  .mk F (h.ownL.mono (Nat.zero_le _)) (h.ownM.mono (Nat.zero_le _)) (fun k e => h.ownL.lt k e) (fun k e => h.ownM.lt k e) h.dr h.el h.em h.cn
    (fun i t q h1 h2 => h.cl i t q ((hD i).1 (List.getElem?_eq_some_iff.1 h1).1) h1 h2) (fun i p q h1 h2 => h.cm i p q ((hD i).2 (List.getElem?_eq_some_iff.1 h1).1) h1 h2)
    (fun a k hk => ⟨(h.ff a k hk).1, (h.ff a k hk).2.2⟩) h.dd
end Go.Proofs.YtanemojiaahbgaaGreatDoor
end

section
/- Trees whose lists lie in blocks of a set. -/
set_option linter.unusedSimpArgs false
set_option linter.unusedVariables false
namespace Go.Proofs.YtanemojiaahbgaaGreatDoor
open Go Go.RowKit Go.OpenShut

section
variable {α : Type} {enc : α → List Value} {sz : Nat}
/-- The slice v reads as the list xs, in a block of S. -/
def RdI (w : World) (S : Nat → Prop) (enc : α → List Value) (sz : Nat) (v : Value) (xs : List α) : Prop :=
  ∃ (p : Option Addr) (cap : Nat), v = .slice p xs.length cap ∧ xs.length ≤ cap ∧ cap ≤ maxLen ∧ (p = none → cap = 0) ∧
    ∀ a, p = some a → 0 < xs.length → ∃ b o, a = ⟨b, o, none⟩ ∧ S b ∧ RowAt w b o enc sz xs
theorem RdI.same {w w' : World} {S : Nat → Prop} {v : Value} {xs : List α} (h : RdI w S enc sz v xs) (hk : ∀ k, S k → w'.heap[k]? = w.heap[k]?) : RdI w' S enc sz v xs := by
  obtain ⟨p, cap, h1, h2, h3, h4, h5⟩ := h
  refine ⟨p, cap, h1, h2, h3, h4, fun a ha h0 => ?_⟩
  obtain ⟨b, o, e, hb, hr⟩ := h5 a ha h0
  exact ⟨b, o, e, hb, fun i x hx j u hu => (World.cell?_of_block (w := w) (a := ⟨b, o + i * sz + j, none⟩) (hk b hb)).trans (hr i x hx j u hu)⟩
theorem RdI.mono {w : World} {S S' : Nat → Prop} {v : Value} {xs : List α} (h : RdI w S enc sz v xs) (hs : ∀ k, S k → S' k) : RdI w S' enc sz v xs := by
  obtain ⟨p, cap, h1, h2, h3, h4, h5⟩ := h
  refine ⟨p, cap, h1, h2, h3, h4, fun a ha h0 => ?_⟩
  obtain ⟨b, o, e, hb, hr⟩ := h5 a ha h0
  exact ⟨b, o, e, hs b hb, hr⟩
theorem RdI.rd {w : World} {S : Nat → Prop} {B : Nat} {v : Value} {xs : List α} (h : RdI w S enc sz v xs) (hs : ∀ k, S k → k < B) : Rd w B enc sz v xs := by
  obtain ⟨p, cap, h1, h2, h3, h4, h5⟩ := h
  refine ⟨p, cap, h1, h2, h3, h4, fun a ha h0 => ?_⟩
  obtain ⟨b, o, e, hb, hr⟩ := h5 a ha h0
  exact ⟨b, o, e, hs b hb, hr⟩
theorem RdI.nil (w : World) (S : Nat → Prop) : RdI w S enc sz (.slice none 0 0) ([] : List α) := ⟨none, 0, rfl, Nat.le_refl _, Nat.zero_le _, fun _ => rfl, fun a h _ => by cases h⟩
theorem Own.rdI (C : Codec enc sz) {w : World} {base : Nat} {e : TypeId} {S : Nat → Prop} {v : Value} {xs : List α} (h : Own w base e enc sz v xs) (hs : ∀ k, v.ownBlock = some k → S k) : RdI w S enc sz v xs := by
  have hrd := h.rd C
  obtain ⟨p, cap, h1, h2, h3, h4, h5⟩ := hrd
  refine ⟨p, cap, h1, h2, h3, h4, fun a ha h0 => ?_⟩
  obtain ⟨b, o, e, hb, hr⟩ := h5 a ha h0
  exact ⟨b, o, e, hs b (by rw [h1, ha, e]; rfl), hr⟩
end

/-- The cells r read as the tree t, through blocks of S. -/
inductive TreeS (w : World) (S : Nat → Prop) : JV → RV → Prop
  | mk {r : RV} {l : List JV} {m : List (ByteArray × JV)} {rs : List RV} {rms : List RM} (hl : RdI w S encV 5 (.slice r.pl r.nl r.cl) rs) (el : l.length = rs.length) (cl : ∀ (i : Nat) (t : JV) (q : RV), l[i]? = some t → rs[i]? = some q → TreeS w S t q)
      (hm : RdI w S encM 6 (.slice r.pm r.nm r.cm) rms) (em : m.length = rms.length) (cn : ∀ (i : Nat) (p : ByteArray × JV) (q : RM), m[i]? = some p → rms[i]? = some q → p.1 = q.name)
      (cm : ∀ (i : Nat) (p : ByteArray × JV) (q : RM), m[i]? = some p → rms[i]? = some q → TreeS w S p.2 q.v) : TreeS w S (.mk r.k r.n r.s l m) r
theorem TreeS.same {w w' : World} {S : Nat → Prop} {t : JV} {r : RV} (h : TreeS w S t r) (hk : ∀ k, S k → w'.heap[k]? = w.heap[k]?) : TreeS w' S t r := by
  induction h with
  | mk hl el cl hm em cn cm ih1 ih2 => exact .mk (hl.same hk) el ih1 (hm.same hk) em cn ih2
theorem TreeS.mono {w : World} {S S' : Nat → Prop} {t : JV} {r : RV} (h : TreeS w S t r) (hs : ∀ k, S k → S' k) : TreeS w S' t r := by
  induction h with
  | mk hl el cl hm em cn cm ih1 ih2 => exact .mk (hl.mono hs) el ih1 (hm.mono hs) em cn ih2
theorem TreeS.tree {w : World} {S : Nat → Prop} {B : Nat} {t : JV} {r : RV} (h : TreeS w S t r) (hs : ∀ k, S k → k < B) : TreeOf w B t r := by
  induction h with
  | mk hl el cl hm em cn cm ih1 ih2 => exact .mk (hl.rd hs) el ih1 (hm.rd hs) em cn ih2
theorem TreeS.leaf (w : World) (S : Nat → Prop) (k n : Int) (s : ByteArray) : TreeS w S (.mk k n s [] []) ⟨k, n, s, none, 0, 0, none, 0, 0⟩ :=
  .mk (r := ⟨k, n, s, none, 0, 0, none, 0, 0⟩) (rs := []) (rms := []) (RdI.nil _ _) rfl (fun i t q h => by simp at h) (RdI.nil _ _) rfl (fun i p q h => by simp at h) (fun i p q h => by simp at h)

/-- A list that grows, its parts in blocks between base and now that are not its own. -/
structure GrL (w : World) (base : Nat) (v : Value) (l : List JV) : Prop where
  ex : ∃ rs, Own w base 31 encV 5 v rs ∧ l.length = rs.length ∧ ∀ (i : Nat) (t : JV) (q : RV), l[i]? = some t → rs[i]? = some q → TreeS w (fun k => base ≤ k ∧ k < w.heap.size ∧ v.ownBlock ≠ some k) t q
structure GrM (w : World) (base : Nat) (v : Value) (m : List (ByteArray × JV)) : Prop where
  ex : ∃ rms, Own w base 48 encM 6 v rms ∧ m.length = rms.length ∧ (∀ (i : Nat) (p : ByteArray × JV) (q : RM), m[i]? = some p → rms[i]? = some q → p.1 = q.name) ∧ ∀ (i : Nat) (p : ByteArray × JV) (q : RM), m[i]? = some p → rms[i]? = some q → TreeS w (fun k => base ≤ k ∧ k < w.heap.size ∧ v.ownBlock ≠ some k) p.2 q.v
theorem GrL.nil (w : World) (base : Nat) : GrL w base (.slice none 0 0) [] := ⟨[], Own.nil _ _ _, rfl, fun i t q h => by simp at h⟩
theorem GrM.nil (w : World) (base : Nat) : GrM w base (.slice none 0 0) [] := ⟨[], Own.nil _ _ _, rfl, fun i t q h => by simp at h, fun i t q h => by simp at h⟩
/-- What happens outside of the list and its parts. -/
theorem GrL.out {w w' : World} {base : Nat} {v : Value} {l : List JV} (h : GrL w base v l) (hk : ∀ k, base ≤ k → k < w.heap.size → w'.heap[k]? = w.heap[k]?) (hs : w.heap.size ≤ w'.heap.size) : GrL w' base v l := by
  obtain ⟨rs, h1, h2, h3⟩ := h.ex
  exact ⟨rs, h1.same (fun k e => hk k (h1.lt k e).1 (h1.lt k e).2), h2, fun i t q a b => ((h3 i t q a b).same (fun k e => hk k e.1 e.2.1)).mono (fun k e => ⟨e.1, by omega, e.2.2⟩)⟩
theorem GrM.out {w w' : World} {base : Nat} {v : Value} {m : List (ByteArray × JV)} (h : GrM w base v m) (hk : ∀ k, base ≤ k → k < w.heap.size → w'.heap[k]? = w.heap[k]?) (hs : w.heap.size ≤ w'.heap.size) : GrM w' base v m := by
  obtain ⟨rs, h1, h2, h4, h3⟩ := h.ex
  exact ⟨rs, h1.same (fun k e => hk k (h1.lt k e).1 (h1.lt k e).2), h2, h4, fun i t q a b => ((h3 i t q a b).same (fun k e => hk k e.1 e.2.1)).mono (fun k e => ⟨e.1, by omega, e.2.2⟩)⟩
theorem snoc_get {α : Type} {l : List α} {x a : α} {j : Nat} (h : (l ++ [x])[j]? = some a) : (j < l.length ∧ l[j]? = some a) ∨ (j = l.length ∧ a = x) := by
  by_cases hj : j < l.length
  · rw [List.getElem?_append_left hj] at h; exact .inl ⟨hj, h⟩
  · rw [List.getElem?_append_right (by omega)] at h
    have h2 : j - l.length = 0 := by have := (List.getElem?_eq_some_iff.1 h).1; simp at this; omega
    rw [h2] at h
    simp at h
    exact .inr ⟨by omega, h.symm⟩
/-- One part more: w1 is where the part was made, w2 behind the append. -/
theorem GrL.snoc {w1 w2 : World} {base : Nat} {v v2 : Value} {l : List JV} {t : JV} {q : RV} {rs : List RV} (h1 : Own w1 base 31 encV 5 v rs) (h2 : l.length = rs.length) (h3 : ∀ (i : Nat) (t : JV) (q : RV), l[i]? = some t → rs[i]? = some q → TreeS w1 (fun k => base ≤ k ∧ k < w1.heap.size ∧ v.ownBlock ≠ some k) t q)
    (ht : TreeS w1 (fun k => base ≤ k ∧ k < w1.heap.size ∧ v.ownBlock ≠ some k) t q) (ho : Own w2 base 31 encV 5 v2 (rs ++ [q])) (hg : w1.grownBy w2 v.ownBlock) (hat : ∀ k, v2.ownBlock = some k → v.ownBlock = some k ∨ w1.heap.size ≤ k) : GrL w2 base v2 (l ++ [t]) := by
  have hs := hg.size
  have key : ∀ (t : JV) (q : RV), TreeS w1 (fun k => base ≤ k ∧ k < w1.heap.size ∧ v.ownBlock ≠ some k) t q → TreeS w2 (fun k => base ≤ k ∧ k < w2.heap.size ∧ v2.ownBlock ≠ some k) t q :=
    fun t q h => (h.same (fun k e => hg.block k e.2.1 (fun e2 => e.2.2 e2.symm))).mono (fun k e => ⟨e.1, by omega, fun e2 => by
      rcases hat k e2 with h | h
      · exact e.2.2 h
      · omega⟩)
  refine ⟨rs ++ [q], ho, by simp [h2], fun i t' q' a b => ?_⟩
  rcases snoc_get a with ⟨ha, a⟩ | ⟨ha, rfl⟩
  · rcases snoc_get b with ⟨hb, b⟩ | ⟨hb, _⟩
    · exact key _ _ (h3 i t' q' a b)
    · omega
  · rcases snoc_get b with ⟨hb, b⟩ | ⟨hb, rfl⟩
    · omega
    · exact key _ _ ht
theorem GrM.snoc {w1 w2 : World} {base : Nat} {v v2 : Value} {m : List (ByteArray × JV)} {n : ByteArray} {t : JV} {q : RV} {rms : List RM} (h1 : Own w1 base 48 encM 6 v rms) (h2 : m.length = rms.length) (h4 : ∀ (i : Nat) (p : ByteArray × JV) (q : RM), m[i]? = some p → rms[i]? = some q → p.1 = q.name)
    (h3 : ∀ (i : Nat) (p : ByteArray × JV) (q : RM), m[i]? = some p → rms[i]? = some q → TreeS w1 (fun k => base ≤ k ∧ k < w1.heap.size ∧ v.ownBlock ≠ some k) p.2 q.v)
    (ht : TreeS w1 (fun k => base ≤ k ∧ k < w1.heap.size ∧ v.ownBlock ≠ some k) t q) (ho : Own w2 base 48 encM 6 v2 (rms ++ [⟨n, q⟩])) (hg : w1.grownBy w2 v.ownBlock) (hat : ∀ k, v2.ownBlock = some k → v.ownBlock = some k ∨ w1.heap.size ≤ k) : GrM w2 base v2 (m ++ [(n, t)]) := by
  have hs := hg.size
  have key : ∀ (t : JV) (q : RV), TreeS w1 (fun k => base ≤ k ∧ k < w1.heap.size ∧ v.ownBlock ≠ some k) t q → TreeS w2 (fun k => base ≤ k ∧ k < w2.heap.size ∧ v2.ownBlock ≠ some k) t q :=
    fun t q h => (h.same (fun k e => hg.block k e.2.1 (fun e2 => e.2.2 e2.symm))).mono (fun k e => ⟨e.1, by omega, fun e2 => by
      rcases hat k e2 with h | h
      · exact e.2.2 h
      · omega⟩)
  refine ⟨rms ++ [⟨n, q⟩], ho, by simp [h2], fun i p' q' a b => ?_, fun i p' q' a b => ?_⟩
  · rcases snoc_get a with ⟨ha, a⟩ | ⟨ha, rfl⟩
    · rcases snoc_get b with ⟨hb, b⟩ | ⟨hb, _⟩
      · exact h4 i p' q' a b
      · omega
    · rcases snoc_get b with ⟨hb, b⟩ | ⟨hb, rfl⟩
      · omega
      · rfl
  · rcases snoc_get a with ⟨ha, a⟩ | ⟨ha, rfl⟩
    · rcases snoc_get b with ⟨hb, b⟩ | ⟨hb, _⟩
      · exact key _ _ (h3 i p' q' a b)
      · omega
    · rcases snoc_get b with ⟨hb, b⟩ | ⟨hb, rfl⟩
      · omega
      · exact key _ _ ht
/-- The whole list as a tree. -/
theorem GrL.whole {w : World} {base : Nat} {p : Option Addr} {n c : Nat} {l : List JV} (h : GrL w base (.slice p n c) l) : TreeS w (fun k => base ≤ k ∧ k < w.heap.size) (.mk 5 0 ⟨#[]⟩ l []) ⟨5, 0, ⟨#[]⟩, p, n, c, none, 0, 0⟩ := by
  obtain ⟨rs, h1, h2, h3⟩ := h.ex
  exact .mk (r := ⟨5, 0, ⟨#[]⟩, p, n, c, none, 0, 0⟩) (rs := rs) (rms := []) (h1.rdI codecV (fun k e => h1.lt k e)) h2 (fun i t q a b => (h3 i t q a b).mono (fun k e => ⟨e.1, e.2.1⟩)) (RdI.nil _ _) rfl (fun i p q h => by simp at h) (fun i p q h => by simp at h)
theorem GrM.whole {w : World} {base : Nat} {p : Option Addr} {n c : Nat} {m : List (ByteArray × JV)} (h : GrM w base (.slice p n c) m) : TreeS w (fun k => base ≤ k ∧ k < w.heap.size) (.mk 6 0 ⟨#[]⟩ [] m) ⟨6, 0, ⟨#[]⟩, none, 0, 0, p, n, c⟩ := by
  obtain ⟨rs, h1, h2, h4, h3⟩ := h.ex
  exact .mk (r := ⟨6, 0, ⟨#[]⟩, none, 0, 0, p, n, c⟩) (rs := []) (rms := rs) (RdI.nil _ _) rfl (fun i p q h => by simp at h) (h1.rdI codecM (fun k e => h1.lt k e)) h2 h4 (fun i t q a b => (h3 i t q a b).mono (fun k e => ⟨e.1, e.2.1⟩))
end Go.Proofs.YtanemojiaahbgaaGreatDoor
end
