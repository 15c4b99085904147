import Derived.Test.YtanemojiaahbgaaGreatDoorSf04
/- May a value be what a letter says? refs.texts, refs.may; walked. -/
set_option linter.unusedSimpArgs false
set_option linter.unusedVariables false
namespace Go.Proofs.YtanemojiaahbgaaGreatDoor
open Go Go.RowKit Go.OpenShut

theorem may2_any (s : ByteArray) (w : World) : Calls Tryz.prog 100 #[.string s] w fun e w' => e = .returned (.bool true) ∧ w' = w := by
  go_enter Tryz.func100, Tryz.ntmps100
  go_wp2_with fail
  go_ret
  exact ⟨rfl, rfl⟩

set_option maxRecDepth 100000 in
set_option maxHeartbeats 1000000 in
theorem notId_any (x : RV) (g : Nat) (w : World) (hg : w.cell? ⟨g, 0, none⟩ = some (.func (.func 96) #[] #[])) (hs : x.s.size ≤ maxLen) :
    Calls Tryz.prog 113 #[x.val, .pointer (some ⟨g, 0, none⟩)] w fun e w' => e = .returned (.bool (!(decide (x.k = 4) && idB x.s))) ∧ Below w.heap.size w w' := by
  obtain ⟨k, n, s, pl, nl, cl, pm, nm, cm⟩ := x
  dsimp only [RV.val] at *
  have hlt := (cell_some hg).2
  have hB : Below w.heap.size w (w.alloc (.cells #[.int .i64 k, .int .i64 n, .string s, .slice pl nl cl, .slice pm nm cm] 31)) := (Below.refl _ _).alloc (Nat.le_refl _) _
  have hc := bcs hB hlt hg
  have hA : VAt (w.alloc (.cells #[.int .i64 k, .int .i64 n, .string s, .slice pl nl cl, .slice pm nm cm] 31)) w.heap.size ⟨k, n, s, pl, nl, cl, pm, nm, cm⟩ := heap_alloc_at rfl
  have HC : Hid (∀ W, Calls Tryz.prog 96 #[.string s] W fun e w' => e = .returned (.bool (idB s)) ∧ w' = W) := fun W => identIs_any s W hs
  obtain ⟨W0, hW0⟩ : ∃ W, w.alloc (.cells #[.int .i64 k, .int .i64 n, .string s, .slice pl nl cl, .slice pm nm cm] 31) = W := ⟨_, rfl⟩
  rw [hW0] at hB hc hA
  have HB := Lib.hid hB
  have HA := Lib.hid hA
  clear hB hA hg
  by_cases h4 : k = 4
  · subst h4
    cases hb : idB s
    all_goals
      rw [hb] at HC
      clear hb
      go_enter Tryz.func113, Tryz.ntmps113
      go_upto_region 1 with fail
      try rw [hW0]
      clear hW0
      have a0 := HA.out.cell 0 rfl
      have a1 := HA.out.cell 1 rfl
      have a2 := HA.out.cell 2 rfl
      have a3 := HA.out.cell 3 rfl
      have a4 := HA.out.cell 4 rfl
      go_wp2_with (go_at_call 96; refine (HC.out _).mono ?_; rintro e w1 ⟨rfl, rfl⟩)
      go_ret
      exact ⟨by simp, HB.out⟩
  · have hq : (k != 4) = true := by simpa using h4
    have HR : Hid ((!(decide (k = 4) && idB s)) = true) := by unfold Hid; rw [decide_eq_false h4]; rfl
    rw [HR.out]
    clear HR h4
    go_enter Tryz.func113, Tryz.ntmps113
    go_upto_region 1 with fail
    try rw [hW0]
    clear hW0
    have a0 := HA.out.cell 0 rfl
    have a1 := HA.out.cell 1 rfl
    have a2 := HA.out.cell 2 rfl
    have a3 := HA.out.cell 3 rfl
    have a4 := HA.out.cell 4 rfl
    go_wp2_with fail
    go_ret
    exact ⟨rfl, HB.out⟩

set_option maxRecDepth 100000 in
set_option maxHeartbeats 1000000 in
theorem notTx_any (x : RV) (g : Nat) (w : World) (hg : w.cell? ⟨g, 0, none⟩ = some (.func (.func 100) #[] #[])) (hs : x.s.size ≤ maxLen) :
    Calls Tryz.prog 113 #[x.val, .pointer (some ⟨g, 0, none⟩)] w fun e w' => e = .returned (.bool (!(decide (x.k = 4) && true))) ∧ Below w.heap.size w w' := by
  obtain ⟨k, n, s, pl, nl, cl, pm, nm, cm⟩ := x
  dsimp only [RV.val] at *
  have hlt := (cell_some hg).2
  have hB : Below w.heap.size w (w.alloc (.cells #[.int .i64 k, .int .i64 n, .string s, .slice pl nl cl, .slice pm nm cm] 31)) := (Below.refl _ _).alloc (Nat.le_refl _) _
  have hc := bcs hB hlt hg
  have hA : VAt (w.alloc (.cells #[.int .i64 k, .int .i64 n, .string s, .slice pl nl cl, .slice pm nm cm] 31)) w.heap.size ⟨k, n, s, pl, nl, cl, pm, nm, cm⟩ := heap_alloc_at rfl
  have HC : Hid (∀ W, Calls Tryz.prog 100 #[.string s] W fun e w' => e = .returned (.bool (true)) ∧ w' = W) := fun W => may2_any s W
  obtain ⟨W0, hW0⟩ : ∃ W, w.alloc (.cells #[.int .i64 k, .int .i64 n, .string s, .slice pl nl cl, .slice pm nm cm] 31) = W := ⟨_, rfl⟩
  rw [hW0] at hB hc hA
  have HB := Lib.hid hB
  have HA := Lib.hid hA
  clear hB hA hg
  by_cases h4 : k = 4
  · subst h4
    cases hb : true
    all_goals
      rw [hb] at HC
      clear hb
      go_enter Tryz.func113, Tryz.ntmps113
      go_upto_region 1 with fail
      try rw [hW0]
      clear hW0
      have a0 := HA.out.cell 0 rfl
      have a1 := HA.out.cell 1 rfl
      have a2 := HA.out.cell 2 rfl
      have a3 := HA.out.cell 3 rfl
      have a4 := HA.out.cell 4 rfl
      go_wp2_with (go_at_call 100; refine (HC.out _).mono ?_; rintro e w1 ⟨rfl, rfl⟩)
      go_ret
      exact ⟨by simp, HB.out⟩
  · have hq : (k != 4) = true := by simpa using h4
    have HR : Hid ((!(decide (k = 4) && true)) = true) := by unfold Hid; rw [decide_eq_false h4]; rfl
    rw [HR.out]
    clear HR h4
    go_enter Tryz.func113, Tryz.ntmps113
    go_upto_region 1 with fail
    try rw [hW0]
    clear hW0
    have a0 := HA.out.cell 0 rfl
    have a1 := HA.out.cell 1 rfl
    have a2 := HA.out.cell 2 rfl
    have a3 := HA.out.cell 3 rfl
    have a4 := HA.out.cell 4 rfl
    go_wp2_with fail
    go_ret
    exact ⟨rfl, HB.out⟩

/-- The library's IndexFunc, ContainsFunc at values, with a closure that captured one variable. -/
def anyV (pb : RV → Bool) (rs : List RV) : Bool := rs.any pb
theorem anyV_idx (pb : RV → Bool) (rs : List RV) : anyV pb rs = (rs.findIdx? pb).isSome := by
  unfold anyV
  rw [List.findIdx?_isSome]

set_option maxRecDepth 100000 in
set_option maxHeartbeats 1000000 in
theorem indexT_any (w : World) (p : Option Addr) (n c g : Nat) (rs : List RV) (pb : RV → Bool) (hv : Rd w w.heap.size encV 5 (.slice p n c) rs) (hlen : rs.length ≤ 1759218604390)
    (HP : ∀ (i : Nat) x, rs[i]? = some x → ∀ W, Below w.heap.size w W → Calls Tryz.prog 113 #[x.val, .pointer (some ⟨g, 0, none⟩)] W fun e w' => e = .returned (.bool (pb x)) ∧ Below W.heap.size W w') :
    Calls Tryz.prog 65 #[.slice p n c, .func (.func 113) #[] #[.pointer (some ⟨g, 0, none⟩)]] w fun e w' => e = .returned (.int .i64 (placeI (rs.findIdx? pb))) ∧ Below w.heap.size w w' := by
  have hn := rd_nlen hv
  subst hn
  have HV := Lib.hid hv
  have HPB := Lib.hid HP
  clear hv HP
  go_enter Tryz.func65, Tryz.ntmps65
  go_wp2_with fail
  go_loopw [8] (fun i wr => ∃ k : Nat, k ≤ rs.length ∧ i = .int .i64 k ∧ Hid (∀ (j : Nat) y, j < k → rs[j]? = some y → pb y = false) ∧ Below w.heap.size w wr) (fun i _ => rs.length - (intOf i).toNat)
  case atStart => exact ⟨0, Nat.zero_le _, rfl, fun j y h => by omega, Below.refl _ _⟩
  case round =>
    obtain ⟨k, hk, rfl, hno, hbr⟩ := hrel
    by_cases hlt : k < rs.length
    · obtain ⟨x, hx⟩ : ∃ x, rs[k]? = some x := ⟨_, List.getElem?_eq_getElem hlt⟩
      obtain ⟨b1, o1, rfl, hb1, hc1⟩ := rd_at' (HV.out.below hbr (Nat.le_refl _)) hx
      have f0 := hc1 0 _ rfl
      have f1 := hc1 1 _ rfl
      have f2 := hc1 2 _ rfl
      have f3 := hc1 3 _ rfl
      have f4 := hc1 4 _ rfl
      rw [Nat.add_zero] at f0
      have HX := Lib.hid hx
      have HBR := Lib.hid hbr
      have HQ : Hid (∀ W, Below w.heap.size w W → Calls Tryz.prog 113 #[x.val, .pointer (some ⟨g, 0, none⟩)] W fun e w' => e = .returned (.bool (pb x)) ∧ Below W.heap.size W w') := HPB.out k x hx
      cases hnb : pb x
      all_goals
        rw [hnb] at HQ
        have HNB := Lib.hid hnb
        have HNO := Lib.hid hno.out
        clear hx hc1 hbr hnb hno
        go_wp2_with (go_at_call 113; refine (HQ.out _ HBR.out).mono ?_; rintro e w1 ⟨rfl, hb1'⟩)
        first
          | (go_roundw
             case rel =>
               refine ⟨k + 1, by omega, by go_num, ?_, HBR.out.trans (hb1'.mono HBR.out.size)⟩
               intro j y hj hy
               by_cases e : j = k
               · subst e
                 have h2 := HX.out
                 rw [hy] at h2
                 cases h2
                 exact HNB.out
               · exact HNO.out j y (by omega) hy
             case measure => simp [intOf]; omega)
          | (go_ret
             have HF := find_at HX.out HNB.out HNO.out
             exact ⟨ret_int (by rw [HF]; rfl), HBR.out.trans (hb1'.mono HBR.out.size)⟩)
    · obtain rfl : k = rs.length := by omega
      have HF := Lib.hid (find_not (p := pb) (l := rs) (fun j y hy => hno.out j y (List.getElem?_eq_some_iff.1 hy).1 hy))
      go_wp2_with fail
      go_ret
      exact ⟨ret_int (by rw [HF.out]; rfl), hbr⟩
set_option maxRecDepth 100000 in
set_option maxHeartbeats 1000000 in
theorem containsT_any (w : World) (p : Option Addr) (n c g : Nat) (rs : List RV) (pb : RV → Bool) (hv : Rd w w.heap.size encV 5 (.slice p n c) rs) (hlen : rs.length ≤ 1759218604390)
    (HP : ∀ (i : Nat) x, rs[i]? = some x → ∀ W, Below w.heap.size w W → Calls Tryz.prog 113 #[x.val, .pointer (some ⟨g, 0, none⟩)] W fun e w' => e = .returned (.bool (pb x)) ∧ Below W.heap.size W w') :
    Calls Tryz.prog 40 #[.slice p n c, .func (.func 113) #[] #[.pointer (some ⟨g, 0, none⟩)]] w fun e w' => e = .returned (.bool (anyV pb rs)) ∧ Below w.heap.size w w' := by
  have HC := Lib.hid (indexT_any w p n c g rs pb hv hlen HP)
  have HT := Lib.hid (anyV_idx pb rs)
  clear hv HP hlen
  generalize rs.findIdx? pb = o at HC HT
  cases o with
  | none =>
    have hd : decide ((0 : Int) ≤ placeI none) = false := by decide
    go_enter Tryz.func40, Tryz.ntmps40
    go_wp2_with (go_at_call 65; refine HC.out.mono ?_; rintro e w1 ⟨rfl, hb1⟩)
    go_ret
    exact ⟨ret_boolI (by rw [HT.out]; rfl), hb1⟩
  | some i =>
    have hd : decide ((0 : Int) ≤ placeI (some i)) = true := by simp [placeI]
    go_enter Tryz.func40, Tryz.ntmps40
    go_wp2_with (go_at_call 65; refine HC.out.mono ?_; rintro e w1 ⟨rfl, hb1⟩)
    go_ret
    exact ⟨ret_boolI (by rw [HT.out]; simp), hb1⟩

set_option maxRecDepth 100000 in
set_option maxHeartbeats 1000000 in
theorem textsId_any (r : RV) (w : World) (rs : List RV) (hv : Rd w w.heap.size encV 5 (.slice r.pl r.nl r.cl) rs) (hlen : rs.length ≤ 1759218604390) (hs : ∀ (i : Nat) x, rs[i]? = some x → x.s.size ≤ maxLen) :
    Calls Tryz.prog 97 #[r.val, .func (.func 96) #[] #[]] w fun e w' => e = .returned (.bool (decide (r.k = 5) && rs.all (fun x => decide (x.k = 4) && idB x.s))) ∧ Below w.heap.size w w' := by
  have hB : Below w.heap.size w ((w.alloc r.obj).alloc (.cells #[.func (.func 96) #[] #[]] 135)) := ((Below.refl _ _).alloc (Nat.le_refl _) _).alloc (by simp) _
  have hA : VAt ((w.alloc r.obj).alloc (.cells #[.func (.func 96) #[] #[]] 135)) w.heap.size r := heap_alloc_lt (by simp) (heap_alloc_at rfl)
  have hF : ((w.alloc r.obj).alloc (.cells #[.func (.func 96) #[] #[]] 135)).heap[w.heap.size + 1]? = some (.cells #[.func (.func 96) #[] #[]] 135 (0, 0)) := heap_alloc_at (by simp)
  have hz : ((w.alloc r.obj).alloc (.cells #[.func (.func 96) #[] #[]] 135)).heap.size = w.heap.size + 2 := by simp
  have hall : anyV (fun x => !(decide (x.k = 4) && idB x.s)) rs = !(rs.all (fun x => decide (x.k = 4) && idB x.s)) := by unfold anyV; rw [List.not_all_eq_any_not]
  have HALL := Lib.hid hall
  dsimp only [RV.val, RV.obj] at *
  obtain ⟨W0, hW0⟩ : ∃ W, (w.alloc (.cells #[.int .i64 r.k, .int .i64 r.n, .string r.s, .slice r.pl r.nl r.cl, .slice r.pm r.nm r.cm] 31)).alloc (.cells #[.func (.func 96) #[] #[]] 135) = W := ⟨_, rfl⟩
  rw [hW0] at hB hA hF hz
  have hcf : W0.cell? ⟨w.heap.size + 1, 0, none⟩ = some (.func (.func 96) #[] #[]) := by rw [cell_of_row W0 (w.heap.size + 1) 0 _ _ _ hF]; rfl
  have HC : Hid (Calls Tryz.prog 40 #[.slice r.pl r.nl r.cl, .func (.func 113) #[] #[.pointer (some ⟨w.heap.size + 1, 0, none⟩)]] W0 fun e w' => e = .returned (.bool (anyV (fun x => !(decide (x.k = 4) && idB x.s)) rs)) ∧ Below W0.heap.size W0 w') :=
    containsT_any W0 r.pl r.nl r.cl (w.heap.size + 1) rs _ (hv.below hB hB.size) hlen (fun i x hx W hb => notId_any x (w.heap.size + 1) W (bcs hb (by omega) hcf) (hs i x hx))
  rw [HALL.out] at HC
  obtain ⟨b, hb⟩ : ∃ b, rs.all (fun x => decide (x.k = 4) && idB x.s) = b := ⟨_, rfl⟩
  rw [hb] at HC
  rw [hb]
  have HB := Lib.hid hB
  have HA := Lib.hid hA
  have hmf : ∀ (fn : Fn) (first cap : Array Value) (w : World), (Instr.makeFunc fn first cap).run Tryz.prog w = .ok (.func fn first cap) w := fun _ _ _ _ => rfl
  obtain ⟨k, n, s, pl, nl, cl, pm, nm, cm⟩ := r
  dsimp only at *
  clear hB hA hF hz hall HALL hcf hv hs hlen hb
  by_cases h5 : k = 5
  · subst h5
    cases b
    all_goals
      go_enter Tryz.func97, Tryz.ntmps97
      go_upto_region 1 with fail
      try rw [hW0]
      clear hW0
      have a0 := HA.out.cell 0 rfl
      have a1 := HA.out.cell 1 rfl
      have a2 := HA.out.cell 2 rfl
      have a3 := HA.out.cell 3 rfl
      have a4 := HA.out.cell 4 rfl
      go_wp2_with (go_at_call 40; refine HC.out.mono ?_; rintro e w1 ⟨rfl, hb1⟩)
      go_ret
      exact ⟨by simp, HB.out.trans (hb1.mono HB.out.size)⟩
  · have hq : (k == 5) = false := by simpa using h5
    have HR : Hid ((decide (k = 5) && b) = false) := by unfold Hid; rw [decide_eq_false h5]; rfl
    rw [HR.out]
    clear HR h5
    go_enter Tryz.func97, Tryz.ntmps97
    go_upto_region 1 with fail
    try rw [hW0]
    clear hW0
    have a0 := HA.out.cell 0 rfl
    have a1 := HA.out.cell 1 rfl
    have a2 := HA.out.cell 2 rfl
    have a3 := HA.out.cell 3 rfl
    have a4 := HA.out.cell 4 rfl
    go_wp2_with fail
    go_ret
    exact ⟨rfl, HB.out⟩

set_option maxRecDepth 100000 in
set_option maxHeartbeats 1000000 in
theorem textsTx_any (r : RV) (w : World) (rs : List RV) (hv : Rd w w.heap.size encV 5 (.slice r.pl r.nl r.cl) rs) (hlen : rs.length ≤ 1759218604390) (hs : ∀ (i : Nat) x, rs[i]? = some x → x.s.size ≤ maxLen) :
    Calls Tryz.prog 97 #[r.val, .func (.func 100) #[] #[]] w fun e w' => e = .returned (.bool (decide (r.k = 5) && rs.all (fun x => decide (x.k = 4) && true))) ∧ Below w.heap.size w w' := by
  have hB : Below w.heap.size w ((w.alloc r.obj).alloc (.cells #[.func (.func 100) #[] #[]] 135)) := ((Below.refl _ _).alloc (Nat.le_refl _) _).alloc (by simp) _
  have hA : VAt ((w.alloc r.obj).alloc (.cells #[.func (.func 100) #[] #[]] 135)) w.heap.size r := heap_alloc_lt (by simp) (heap_alloc_at rfl)
  have hF : ((w.alloc r.obj).alloc (.cells #[.func (.func 100) #[] #[]] 135)).heap[w.heap.size + 1]? = some (.cells #[.func (.func 100) #[] #[]] 135 (0, 0)) := heap_alloc_at (by simp)
  have hz : ((w.alloc r.obj).alloc (.cells #[.func (.func 100) #[] #[]] 135)).heap.size = w.heap.size + 2 := by simp
  have hall : anyV (fun x => !(decide (x.k = 4) && true)) rs = !(rs.all (fun x => decide (x.k = 4) && true)) := by unfold anyV; rw [List.not_all_eq_any_not]
  have HALL := Lib.hid hall
  dsimp only [RV.val, RV.obj] at *
  obtain ⟨W0, hW0⟩ : ∃ W, (w.alloc (.cells #[.int .i64 r.k, .int .i64 r.n, .string r.s, .slice r.pl r.nl r.cl, .slice r.pm r.nm r.cm] 31)).alloc (.cells #[.func (.func 100) #[] #[]] 135) = W := ⟨_, rfl⟩
  rw [hW0] at hB hA hF hz
  have hcf : W0.cell? ⟨w.heap.size + 1, 0, none⟩ = some (.func (.func 100) #[] #[]) := by rw [cell_of_row W0 (w.heap.size + 1) 0 _ _ _ hF]; rfl
  have HC : Hid (Calls Tryz.prog 40 #[.slice r.pl r.nl r.cl, .func (.func 113) #[] #[.pointer (some ⟨w.heap.size + 1, 0, none⟩)]] W0 fun e w' => e = .returned (.bool (anyV (fun x => !(decide (x.k = 4) && true)) rs)) ∧ Below W0.heap.size W0 w') :=
    containsT_any W0 r.pl r.nl r.cl (w.heap.size + 1) rs _ (hv.below hB hB.size) hlen (fun i x hx W hb => notTx_any x (w.heap.size + 1) W (bcs hb (by omega) hcf) (hs i x hx))
  rw [HALL.out] at HC
  obtain ⟨b, hb⟩ : ∃ b, rs.all (fun x => decide (x.k = 4) && true) = b := ⟨_, rfl⟩
  rw [hb] at HC
  rw [hb]
  have HB := Lib.hid hB
  have HA := Lib.hid hA
  have hmf : ∀ (fn : Fn) (first cap : Array Value) (w : World), (Instr.makeFunc fn first cap).run Tryz.prog w = .ok (.func fn first cap) w := fun _ _ _ _ => rfl
  obtain ⟨k, n, s, pl, nl, cl, pm, nm, cm⟩ := r
  dsimp only at *
  clear hB hA hF hz hall HALL hcf hv hs hlen hb
  by_cases h5 : k = 5
  · subst h5
    cases b
    all_goals
      go_enter Tryz.func97, Tryz.ntmps97
      go_upto_region 1 with fail
      try rw [hW0]
      clear hW0
      have a0 := HA.out.cell 0 rfl
      have a1 := HA.out.cell 1 rfl
      have a2 := HA.out.cell 2 rfl
      have a3 := HA.out.cell 3 rfl
      have a4 := HA.out.cell 4 rfl
      go_wp2_with (go_at_call 40; refine HC.out.mono ?_; rintro e w1 ⟨rfl, hb1⟩)
      go_ret
      exact ⟨by simp, HB.out.trans (hb1.mono HB.out.size)⟩
  · have hq : (k == 5) = false := by simpa using h5
    have HR : Hid ((decide (k = 5) && b) = false) := by unfold Hid; rw [decide_eq_false h5]; rfl
    rw [HR.out]
    clear HR h5
    go_enter Tryz.func97, Tryz.ntmps97
    go_upto_region 1 with fail
    try rw [hW0]
    clear hW0
    have a0 := HA.out.cell 0 rfl
    have a1 := HA.out.cell 1 rfl
    have a2 := HA.out.cell 2 rfl
    have a3 := HA.out.cell 3 rfl
    have a4 := HA.out.cell 4 rfl
    go_wp2_with fail
    go_ret
    exact ⟨rfl, HB.out⟩
end Go.Proofs.YtanemojiaahbgaaGreatDoor
