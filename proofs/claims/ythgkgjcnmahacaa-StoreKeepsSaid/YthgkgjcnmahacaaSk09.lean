import Derived.Test.YthgkgjcnmahacaaSk05
import Derived.Test.YthgkgjcnmahacaaSk08
/- Where an object of an id stands, walked: the library's BinarySearchFunc at objects. -/
set_option linter.unusedSimpArgs false
set_option linter.unusedVariables false
namespace Go.Proofs.Ythgkgjcnmahacaa
open Go.RowKit Go.OpenShut

/-- How many objects of lesser ids there are; whether the next one is of this id. -/
def lowN (os : List (ByteArray × JV)) (id : ByteArray) : Nat := (os.takeWhile (fun p => decide (cmpN p.1 id < 0))).length
def isAt (os : List (ByteArray × JV)) (id : ByteArray) : Bool := match os[lowN os id]? with
  | some p => decide (p.1 = id)
  | none => false
/-- Objects rise by their ids. -/
def Rising (os : List (ByteArray × JV)) : Prop := ∀ (i j : Nat) p q, i < j → os[i]? = some p → os[j]? = some q → cmpN p.1 q.1 < 0
theorem lowN_of : ∀ {os : List (ByteArray × JV)} {id : ByteArray} {a : Nat}, a ≤ os.length → (∀ k x, k < a → os[k]? = some x → cmpN x.1 id < 0) → (∀ k x, a ≤ k → os[k]? = some x → ¬ cmpN x.1 id < 0) → lowN os id = a
  | [], id, a, h, _, _ => by simp [lowN]; simp at h; omega
  | p :: os, id, 0, h, h1, h2 => by
    have := h2 0 p (Nat.le_refl _) rfl
    simp [lowN, List.takeWhile_cons, this]
  | p :: os, id, a + 1, h, h1, h2 => by
    have h0 := h1 0 p (by omega) rfl
    have ih := lowN_of (os := os) (id := id) (a := a) (by simpa using h) (fun k x hk hx => h1 (k + 1) x (by omega) (by simpa using hx)) (fun k x hk hx => h2 (k + 1) x (by omega) (by simpa using hx))
    unfold lowN at ih ⊢
    rw [List.takeWhile_cons, if_pos (by simpa using h0)]
    simp [ih]
theorem cmpN_lt_trans {a b c : ByteArray} (h1 : cmpN a b < 0) (h2 : ¬ cmpN c b < 0) : cmpN a c < 0 := by
  by_cases h : cmpN a c < 0
  · exact h
  · exact absurd h1 (cmpB_ntrans _ _ _ h h2)
theorem Rising.low {os : List (ByteArray × JV)} (hr : Rising os) {id : ByteArray} {h : Nat} {x : ByteArray × JV} (hx : os[h]? = some x) (hc : cmpN x.1 id < 0) : ∀ k y, k < h + 1 → os[k]? = some y → cmpN y.1 id < 0 := by
  intro k y hk hy
  by_cases e : k = h
  · subst e
    rw [hx] at hy
    cases hy
    exact hc
  · have := hr k h y x (by omega) hy hx
    by_cases g : cmpN y.1 id < 0
    · exact g
    · have h3 := cmpN_neg y.1 x.1
      have : ¬ cmpN y.1 x.1 < 0 := cmpB_ntrans _ _ _ g (by have h4 := cmpN_neg x.1 id; show ¬ cmpN id x.1 < 0; omega)
      omega
theorem Rising.high {os : List (ByteArray × JV)} (hr : Rising os) {id : ByteArray} {h : Nat} {x : ByteArray × JV} (hx : os[h]? = some x) (hc : ¬ cmpN x.1 id < 0) : ∀ k y, h ≤ k → os[k]? = some y → ¬ cmpN y.1 id < 0 := by
  intro k y hk hy
  by_cases e : k = h
  · subst e
    rw [hx] at hy
    cases hy
    exact hc
  · have h1 := hr h k x y (by omega) hx hy
    have h2 := cmpN_neg x.1 y.1
    exact cmpB_ntrans _ _ _ (by show ¬ cmpN y.1 x.1 < 0; omega) hc

def Lows (os : List (ByteArray × JV)) (id : ByteArray) (a : Nat) : Prop := ∀ k x, k < a → os[k]? = some x → cmpN x.1 id < 0
def Highs (os : List (ByteArray × JV)) (id : ByteArray) (b : Nat) : Prop := ∀ k x, b ≤ k → os[k]? = some x → ¬ cmpN x.1 id < 0
abbrev placeF : Value := .func (.func 96) #[] #[]
set_option maxRecDepth 100000 in
theorem place1_any (x : RM) (id : ByteArray) (w : World) :
    Calls Try.prog 96 #[x.val, .string id] w fun e w' => e = .returned (.int .i64 (cmpN x.name id)) ∧ Below w.heap.size w w' := by
  obtain ⟨nm, k, n, s, pl, nl, cl, pm, nm', cm⟩ := x
  dsimp only [RM.val]
  have hB : Below w.heap.size w (w.alloc (.cells #[.string nm, .int .i64 k, .int .i64 n, .string s, .slice pl nl cl, .slice pm nm' cm] 46)) := (Below.refl _ _).alloc (Nat.le_refl _) _
  go_enter Try.func96, Try.ntmps96
  go_wp2_with (go_at_call 55; refine (compare_any _ _ _).mono ?_; rintro e w' ⟨rfl, rfl⟩)
  go_ret
  exact ⟨rfl, hB⟩

set_option maxRecDepth 100000 in
set_option maxHeartbeats 2000000 in
theorem binarySearch_any (w : World) (p : Option Addr) (n c : Nat) (os : List (ByteArray × JV)) (id : ByteArray) (hv : ObjsOf w w.heap.size os (.slice p n c)) (hr : Rising os) (hlen : os.length ≤ 1466015503658) :
    Calls Try.prog 95 #[.slice p n c, .string id, placeF] w fun e w' => e = .returned (.tuple #[.int .i64 (lowN os id : Nat), .bool (isAt os id)]) ∧ Below w.heap.size w w' := by
  obtain ⟨rms, hv, hms⟩ := hv
  have hn := rd_nlen hv
  have hlm := hms.len
  have HV := Lib.hid hv
  have HR := Lib.hid hr
  have HN : Hid (os.length = n ∧ rms.length = n) := ⟨by omega, by omega⟩
  have HM := Lib.hid hms.name
  have hn1 : n ≤ 1466015503658 := by omega
  clear hv hr hn hlm hms hlen
  go_enter Try.func95, Try.ntmps95
  go_wp2_with fail
  go_loopw [9, 10] (fun i j wr => ∃ a b : Nat, a ≤ b ∧ b ≤ n ∧ i = .int .i64 a ∧ j = .int .i64 b ∧ Lows os id a ∧ Highs os id b ∧ Below w.heap.size w wr) (fun i j _ => (intOf j).toNat - (intOf i).toNat)
  case atStart => exact ⟨0, n, Nat.zero_le _, Nat.le_refl _, rfl, rfl, fun k x h => by omega, fun k x h1 h2 => by have := (List.getElem?_eq_some_iff.1 h2).1; have := HN.out; omega, Below.refl _ _⟩
  case round =>
    obtain ⟨a, b, hab, hbn, rfl, rfl, hlo, hhi, hbr⟩ := hrel
    by_cases hlt : a < b
    · obtain ⟨h, hh⟩ : ∃ h, (a + b) / 2 = h := ⟨_, rfl⟩
      have h1 : a ≤ h ∧ h < b := by omega
      have eh : ((a : Int) + (b : Int)) / 2 = (h : Int) := by omega
      have h0 : (0 : Int) ≤ (h : Int) := Int.natCast_nonneg _
      have h2 : (h : Int) < (n : Int) := by omega
      obtain ⟨y, hy⟩ : ∃ x, os[h]? = some x := ⟨_, List.getElem?_eq_getElem (by have := HN.out; omega)⟩
      obtain ⟨x, hx⟩ : ∃ x, rms[h]? = some x := ⟨_, List.getElem?_eq_getElem (by have := HN.out; omega)⟩
      have hyn := HM.out h y x hy hx
      obtain ⟨b1, o1, rfl, hb1, hc1⟩ := rd_at' (HV.out.below hbr (Nat.le_refl _)) hx
      have f0 := hc1 0 _ rfl
      have f1 := hc1 1 _ rfl
      have f2 := hc1 2 _ rfl
      have f3 := hc1 3 _ rfl
      have f4 := hc1 4 _ rfl
      have f5 := hc1 5 _ rfl
      rw [Nat.add_zero] at f0
      have HBR := Lib.hid hbr
      clear hx hc1 hbr hh
      by_cases hc : cmpN y.1 id < 0
      · have HL : Lows os id (h + 1) := HR.out.low hy hc
        have HC : Hid (cmpN x.name id < 0) := by rw [← hyn]; exact hc
        clear hy hc hyn hlo
        go_wp2_with (go_at_call 96; refine (place1_any x id _).mono ?_; rintro e w1 ⟨rfl, hb1'⟩; have hcc := HC.out)
        go_roundw
        case rel => exact ⟨h + 1, b, by omega, hbn, by go_num, rfl, HL, hhi, HBR.out.trans (hb1'.mono HBR.out.size)⟩
        case measure => simp [intOf]; omega
      · have HL : Highs os id h := HR.out.high hy hc
        have HC : Hid (¬ cmpN x.name id < 0) := by rw [← hyn]; exact hc
        clear hy hc hyn hhi
        go_wp2_with (go_at_call 96; refine (place1_any x id _).mono ?_; rintro e w1 ⟨rfl, hb1'⟩; have hcc := HC.out)
        go_roundw
        case rel => exact ⟨a, h, by omega, by omega, rfl, rfl, hlo, HL, HBR.out.trans (hb1'.mono HBR.out.size)⟩
        case measure => simp [intOf]; omega
    · obtain rfl : a = b := by omega
      have hd0 : decide ((a : Int) < (a : Int)) = false := by simp
      have hd1 : ¬ ((a : Int) < (a : Int)) := by omega
      clear hlt hab
      have HLOW := Lib.hid (lowN_of (by have := HN.out; omega) hlo hhi)
      clear hlo hhi
      by_cases hlt2 : a < n
      · obtain ⟨y, hy⟩ : ∃ x, os[a]? = some x := ⟨_, List.getElem?_eq_getElem (by have := HN.out; omega)⟩
        obtain ⟨x, hx⟩ : ∃ x, rms[a]? = some x := ⟨_, List.getElem?_eq_getElem (by have := HN.out; omega)⟩
        have hyn := HM.out a y x hy hx
        obtain ⟨b1, o1, rfl, hb1, hc1⟩ := rd_at' (HV.out.below hbr (Nat.le_refl _)) hx
        have f0 := hc1 0 _ rfl
        have f1 := hc1 1 _ rfl
        have f2 := hc1 2 _ rfl
        have f3 := hc1 3 _ rfl
        have f4 := hc1 4 _ rfl
        have f5 := hc1 5 _ rfl
        rw [Nat.add_zero] at f0
        have HIS : Hid (isAt os id = decide (x.name = id)) := by unfold Hid isAt; rw [HLOW.out, hy]; show decide (y.1 = id) = _; rw [hyn]
        have HBR := Lib.hid hbr
        have ha0 : (0 : Int) ≤ (a : Int) := Int.natCast_nonneg _
        have ha1 : (a : Int) < (n : Int) := by omega
        have hd : decide ((a : Int) < (n : Int)) = true := by simpa using ha1
        have HEQ : Hid ((cmpN x.name id == 0) = decide (x.name = id)) := by
          unfold Hid
          rw [Bool.eq_iff_iff]
          simp only [beq_iff_eq, decide_eq_true_eq]
          exact ⟨cmpN_eq, fun h => by rw [h]; exact cmpN_self _⟩
        clear hx hc1 hbr hy hyn
        go_wp2_with (go_at_call 96; refine (place1_any x id _).mono ?_; rintro e w1 ⟨rfl, hb1'⟩)
        go_ret2
        refine ⟨?_, HBR.out.trans (hb1'.mono HBR.out.size)⟩
        rw [HIS.out, ← HEQ.out, HLOW.out]
        rfl
      · obtain rfl : a = n := by omega
        have HIS : Hid (isAt os id = false) := by unfold Hid isAt; rw [HLOW.out, List.getElem?_eq_none (by have := HN.out; omega)]
        go_wp2_with fail
        go_ret2
        refine ⟨?_, hbr⟩
        rw [HIS.out, HLOW.out]
        rfl

set_option maxRecDepth 100000 in
set_option maxHeartbeats 2000000 in
theorem placeO_any (b : BoxD) (r : RB) (id : ByteArray) (w : World) (hb : BoxOf w w.heap.size b r) (hr : Rising b.objs) (ob : b.Ok) :
    Calls Try.prog 59 #[r.val, .string id] w fun e w' => e = .returned (.tuple #[.int .i64 (lowN b.objs id : Nat), .bool (isAt b.objs id)]) ∧ Below w.heap.size w w' := by
  have ho := hb.objs
  obtain ⟨po, no, co, pt, nt, ct, sq, fl, kp⟩ := r
  dsimp only [RB.val] at *
  have hB : Below w.heap.size w (w.alloc (.cells #[.slice po no co, .slice pt nt ct, .int .i64 sq, .int .i64 fl, .int .i64 kp] 35)) := (Below.refl _ _).alloc (Nat.le_refl _) _
  have HC := Lib.hid (binarySearch_any _ po no co b.objs id (ho.under hB hB.size) hr ob.objs)
  have HB := Lib.hid hB
  clear hb hr ob ho hB
  go_enter Try.func59, Try.ntmps59
  go_wp2_with (go_at_call 95; refine HC.out.mono ?_; rintro e w1 ⟨rfl, hb1⟩)
  go_ret2
  exact ⟨rfl, HB.out.trans (hb1.mono HB.out.size)⟩
end Go.Proofs.Ythgkgjcnmahacaa
