import Derived.Test.YtanemojiaahbgaaGreatDoorSf00
import Derived.Test.YtanemojiaahbgaaGreatDoorSf02
import Derived.Test.YtanemojiaahbgaaGreatDoorSf03
import Derived.Test.YtanemojiaahbgaaGreatDoorSf01
section
/- Is a text an id? ident.Is, ref10.Is; walked. -/
set_option linter.unusedSimpArgs false
set_option linter.unusedVariables false
namespace Go.Proofs.YtanemojiaahbgaaGreatDoor
open Go Go.RowKit Go.OpenShut

theorem ret_boolI {a b : Bool} (h : a = b) : Ending.returned (.bool a) = .returned (.bool b) := by rw [h]
/-- A byte of an id. -/
def idCh (c : UInt8) : Bool := decide (97 ≤ c.toNat) && decide (c.toNat ≤ 122) || decide (65 ≤ c.toNat) && decide (c.toNat ≤ 90) || decide (48 ≤ c.toNat) && decide (c.toNat ≤ 57) || decide (c.toNat = 45) || decide (c.toNat = 95)
def idAll (s : ByteArray) : Bool := s.data.toList.all idCh
def idB (s : ByteArray) : Bool := decide (1 ≤ s.size) && decide (s.size ≤ 255) && idAll s
theorem idAll_yes {s : ByteArray} (h : ∀ j, j < s.size → idCh s[j]! = true) : idAll s = true := by
  unfold idAll
  rw [List.all_eq_true]
  intro c hc
  obtain ⟨j, hj, e⟩ := List.getElem_of_mem hc
  have hj' : j < s.size := by rw [← str_len]; exact hj
  have := h j hj'
  rw [get_bang s j hj'] at this
  rw [← e]
  exact this
theorem idAll_no {s : ByteArray} {j : Nat} (hj : j < s.size) (h : idCh s[j]! = false) : idAll s = false := by
  unfold idAll
  rw [List.all_eq_false]
  refine ⟨s[j], ?_, by rw [← get_bang s j hj, h]; simp⟩
  exact List.getElem_mem (l := s.data.toList) (by rw [str_len]; exact hj)

set_option maxRecDepth 100000 in
set_option maxHeartbeats 4000000 in
theorem identIs_any (s : ByteArray) (w : World) (hs : s.size ≤ maxLen) : Calls Tryz.prog 96 #[.string s] w fun e w' => e = .returned (.bool (idB s)) ∧ w' = w := by
  unfold maxLen at hs
  by_cases h1 : s.size < 1
  · have HR : Hid (idB s = false) := by unfold Hid idB; rw [decide_eq_false (by omega)]; rfl
    have q1 : decide ((s.size : Int) < 1) = true := by simp; omega
    have q2 : (s.size : Int) < 1 := by omega
    have q3 : s.size < 1 := h1
    rw [HR.out]
    clear HR
    go_enter Tryz.func96, Tryz.ntmps96
    go_wp2_with fail
    go_ret
    exact ⟨rfl, rfl⟩
  · by_cases h2 : 255 < s.size
    · have HR : Hid (idB s = false) := by unfold Hid idB; rw [decide_eq_false (p := s.size ≤ 255) (by omega), Bool.and_false]; rfl
      have q1 : decide ((s.size : Int) < 1) = false := by simp; omega
      have q2 : ¬ (s.size : Int) < 1 := by omega
      have q4 : decide ((255 : Int) < (s.size : Int)) = true := by simp; omega
      have q5 : (255 : Int) < (s.size : Int) := by omega
      rw [HR.out]
      clear HR
      go_enter Tryz.func96, Tryz.ntmps96
      go_wp2_with fail
      go_ret
      exact ⟨rfl, rfl⟩
    · have HR : Hid (idB s = idAll s) := by unfold Hid idB; rw [decide_eq_true (by omega), decide_eq_true (by omega)]; rfl
      have q1 : decide ((s.size : Int) < 1) = false := by simp; omega
      have q2 : ¬ (s.size : Int) < 1 := by omega
      have q4 : decide ((255 : Int) < (s.size : Int)) = false := by simp; omega
      have q5 : ¬ (255 : Int) < (s.size : Int) := by omega
      rw [HR.out]
      clear HR
      go_enter Tryz.func96, Tryz.ntmps96
      go_wp2_with fail
      go_loop [15] (fun i => ∃ k : Nat, k ≤ s.size ∧ i = .int .i64 (k : Int) ∧ Hid (∀ j, j < k → idCh s[j]! = true)) (fun i => s.size - (intOf i).toNat)
      case atStart => exact ⟨0, Nat.zero_le _, rfl, fun j h => by omega⟩
      case round =>
        obtain ⟨k, hk, rfl, hall⟩ := hrel
        by_cases hlt : k < s.size
        · have k0 : (0 : Int) ≤ (k : Int) := Int.natCast_nonneg _
          have k1 : (k : Int) < (s.size : Int) := by omega
          have b0 : (0 : Int) ≤ ((s[k].toNat : Nat) : Int) := Int.natCast_nonneg _
          have hcc : Hid (idCh s[k]! = idCh s[k]) := by unfold Hid; rw [get_bang s k hlt]
          obtain ⟨c, hc⟩ : ∃ c, s[k] = c := ⟨_, rfl⟩
          rw [hc] at hcc b0
          have HC := Lib.hid hc
          by_cases a1 : 97 ≤ c.toNat <;> by_cases a2 : c.toNat ≤ 122 <;> by_cases a3 : 65 ≤ c.toNat <;> by_cases a4 : c.toNat ≤ 90 <;> by_cases a5 : 48 ≤ c.toNat <;> by_cases a6 : c.toNat ≤ 57 <;> by_cases a7 : c.toNat = 45 <;> by_cases a8 : c.toNat = 95
          all_goals first | (exfalso; omega) | skip
          all_goals
            have hp : Hid (idCh c = (decide (97 ≤ c.toNat) && decide (c.toNat ≤ 122) || decide (65 ≤ c.toNat) && decide (c.toNat ≤ 90) || decide (48 ≤ c.toNat) && decide (c.toNat ≤ 57) || decide (c.toNat = 45) || decide (c.toNat = 95))) := rfl
            first
              | (have d1 : decide ((97 : Int) ≤ ((c.toNat : Nat) : Int)) = true := decide_eq_true (by omega)
                 have p1 : (97 : Int) ≤ ((c.toNat : Nat) : Int) := by omega)
              | (have d1 : decide ((97 : Int) ≤ ((c.toNat : Nat) : Int)) = false := decide_eq_false (by omega)
                 have p1 : ¬ ((97 : Int) ≤ ((c.toNat : Nat) : Int)) := by omega)
            first
              | (have d2 : decide (((c.toNat : Nat) : Int) ≤ 122) = true := decide_eq_true (by omega)
                 have p2 : ((c.toNat : Nat) : Int) ≤ 122 := by omega)
              | (have d2 : decide (((c.toNat : Nat) : Int) ≤ 122) = false := decide_eq_false (by omega)
                 have p2 : ¬ (((c.toNat : Nat) : Int) ≤ 122) := by omega)
            first
              | (have d3 : decide ((65 : Int) ≤ ((c.toNat : Nat) : Int)) = true := decide_eq_true (by omega)
                 have p3 : (65 : Int) ≤ ((c.toNat : Nat) : Int) := by omega)
              | (have d3 : decide ((65 : Int) ≤ ((c.toNat : Nat) : Int)) = false := decide_eq_false (by omega)
                 have p3 : ¬ ((65 : Int) ≤ ((c.toNat : Nat) : Int)) := by omega)
            first
              | (have d4 : decide (((c.toNat : Nat) : Int) ≤ 90) = true := decide_eq_true (by omega)
                 have p4 : ((c.toNat : Nat) : Int) ≤ 90 := by omega)
              | (have d4 : decide (((c.toNat : Nat) : Int) ≤ 90) = false := decide_eq_false (by omega)
                 have p4 : ¬ (((c.toNat : Nat) : Int) ≤ 90) := by omega)
            first
              | (have d5 : decide ((48 : Int) ≤ ((c.toNat : Nat) : Int)) = true := decide_eq_true (by omega)
                 have p5 : (48 : Int) ≤ ((c.toNat : Nat) : Int) := by omega)
              | (have d5 : decide ((48 : Int) ≤ ((c.toNat : Nat) : Int)) = false := decide_eq_false (by omega)
                 have p5 : ¬ ((48 : Int) ≤ ((c.toNat : Nat) : Int)) := by omega)
            first
              | (have d6 : decide (((c.toNat : Nat) : Int) ≤ 57) = true := decide_eq_true (by omega)
                 have p6 : ((c.toNat : Nat) : Int) ≤ 57 := by omega)
              | (have d6 : decide (((c.toNat : Nat) : Int) ≤ 57) = false := decide_eq_false (by omega)
                 have p6 : ¬ (((c.toNat : Nat) : Int) ≤ 57) := by omega)
            first
              | (have d7 : (((c.toNat : Nat) : Int) == 45) = true := by simp; omega)
              | (have d7 : (((c.toNat : Nat) : Int) == 45) = false := by simp; omega)
            first
              | (have d8 : (((c.toNat : Nat) : Int) == 95) = true := by simp; omega)
              | (have d8 : (((c.toNat : Nat) : Int) == 95) = false := by simp; omega)
            go_wp2_with fail
            first
              | (go_round
                 case rel =>
                   refine ⟨k + 1, by omega, by go_num, fun j hj => ?_⟩
                   by_cases e : j = k
                   · subst e; rw [hcc.out, hp.out]; simp [a1, a2, a3, a4, a5, a6, a7, a8]
                   · exact hall.out j (by omega)
                 case measure => simp [intOf]; omega)
              | (go_ret
                 refine ⟨ret_boolI ?_, rfl⟩
                 exact (idAll_no hlt (by rw [hcc.out, hp.out]; simp [a1, a2, a3, a4, a5, a6, a7, a8])).symm)
        · obtain rfl : k = s.size := by omega
          go_wp2_with fail
          go_ret
          exact ⟨ret_boolI (idAll_yes hall.out).symm, rfl⟩

set_option maxRecDepth 100000 in
set_option maxHeartbeats 4000000 in
theorem refIs_any (s : ByteArray) (w : World) (hs : s.size ≤ maxLen) : Calls Tryz.prog 101 #[.string s] w fun e w' => e = .returned (.bool (idB s)) ∧ w' = w := by
  unfold maxLen at hs
  go_enter Tryz.func101, Tryz.ntmps101
  go_wp2_with fail
  go_loop [3] (fun i => ∃ k : Nat, k ≤ s.size ∧ i = .int .i64 (k : Int) ∧ Hid (∀ j, j < k → idCh s[j]! = true)) (fun i => s.size - (intOf i).toNat)
  case atStart => exact ⟨0, Nat.zero_le _, rfl, fun j h => by omega⟩
  case round =>
    obtain ⟨k, hk, rfl, hall⟩ := hrel
    by_cases hlt : k < s.size
    · have k0 : (0 : Int) ≤ (k : Int) := Int.natCast_nonneg _
      have k1 : (k : Int) < (s.size : Int) := by omega
      have b0 : (0 : Int) ≤ ((s[k].toNat : Nat) : Int) := Int.natCast_nonneg _
      have hcc : Hid (idCh s[k]! = idCh s[k]) := by unfold Hid; rw [get_bang s k hlt]
      obtain ⟨c, hc⟩ : ∃ c, s[k] = c := ⟨_, rfl⟩
      rw [hc] at hcc b0
      have HC := Lib.hid hc
      by_cases a1 : 97 ≤ c.toNat <;> by_cases a2 : c.toNat ≤ 122 <;> by_cases a3 : 65 ≤ c.toNat <;> by_cases a4 : c.toNat ≤ 90 <;> by_cases a5 : 48 ≤ c.toNat <;> by_cases a6 : c.toNat ≤ 57 <;> by_cases a7 : c.toNat = 45 <;> by_cases a8 : c.toNat = 95
      all_goals first | (exfalso; omega) | skip
      all_goals
          have hp : Hid (idCh c = (decide (97 ≤ c.toNat) && decide (c.toNat ≤ 122) || decide (65 ≤ c.toNat) && decide (c.toNat ≤ 90) || decide (48 ≤ c.toNat) && decide (c.toNat ≤ 57) || decide (c.toNat = 45) || decide (c.toNat = 95))) := rfl
          first
            | (have d1 : decide (((c.toNat : Nat) : Int) < 97) = true := decide_eq_true (by omega)
               have p1 : ((c.toNat : Nat) : Int) < 97 := by omega)
            | (have d1 : decide (((c.toNat : Nat) : Int) < 97) = false := decide_eq_false (by omega)
               have p1 : ¬ (((c.toNat : Nat) : Int) < 97) := by omega)
          first
            | (have d2 : decide ((122 : Int) < ((c.toNat : Nat) : Int)) = true := decide_eq_true (by omega)
               have p2 : (122 : Int) < ((c.toNat : Nat) : Int) := by omega)
            | (have d2 : decide ((122 : Int) < ((c.toNat : Nat) : Int)) = false := decide_eq_false (by omega)
               have p2 : ¬ ((122 : Int) < ((c.toNat : Nat) : Int)) := by omega)
          first
            | (have d3 : decide (((c.toNat : Nat) : Int) < 65) = true := decide_eq_true (by omega)
               have p3 : ((c.toNat : Nat) : Int) < 65 := by omega)
            | (have d3 : decide (((c.toNat : Nat) : Int) < 65) = false := decide_eq_false (by omega)
               have p3 : ¬ (((c.toNat : Nat) : Int) < 65) := by omega)
          first
            | (have d4 : decide ((90 : Int) < ((c.toNat : Nat) : Int)) = true := decide_eq_true (by omega)
               have p4 : (90 : Int) < ((c.toNat : Nat) : Int) := by omega)
            | (have d4 : decide ((90 : Int) < ((c.toNat : Nat) : Int)) = false := decide_eq_false (by omega)
               have p4 : ¬ ((90 : Int) < ((c.toNat : Nat) : Int)) := by omega)
          first
            | (have d5 : decide (((c.toNat : Nat) : Int) < 48) = true := decide_eq_true (by omega)
               have p5 : ((c.toNat : Nat) : Int) < 48 := by omega)
            | (have d5 : decide (((c.toNat : Nat) : Int) < 48) = false := decide_eq_false (by omega)
               have p5 : ¬ (((c.toNat : Nat) : Int) < 48) := by omega)
          first
            | (have d6 : decide ((57 : Int) < ((c.toNat : Nat) : Int)) = true := decide_eq_true (by omega)
               have p6 : (57 : Int) < ((c.toNat : Nat) : Int) := by omega)
            | (have d6 : decide ((57 : Int) < ((c.toNat : Nat) : Int)) = false := decide_eq_false (by omega)
               have p6 : ¬ ((57 : Int) < ((c.toNat : Nat) : Int)) := by omega)
          first
            | (have d7 : (((c.toNat : Nat) : Int) != 45) = true := by simp; omega)
            | (have d7 : (((c.toNat : Nat) : Int) != 45) = false := by simp; omega)
          first
            | (have d8 : (((c.toNat : Nat) : Int) != 95) = true := by simp; omega)
            | (have d8 : (((c.toNat : Nat) : Int) != 95) = false := by simp; omega)
          go_wp2_with fail
          first
            | (go_round
               case rel =>
                 refine ⟨k + 1, by omega, by go_num, fun j hj => ?_⟩
                 by_cases e : j = k
                 · subst e; rw [hcc.out, hp.out]; simp [a1, a2, a3, a4, a5, a6, a7, a8]
                 · exact hall.out j (by omega)
               case measure => simp [intOf]; omega)
            | (go_ret
               refine ⟨ret_boolI ?_, rfl⟩
               unfold idB
               rw [idAll_no hlt (by rw [hcc.out, hp.out]; simp [a1, a2, a3, a4, a5, a6, a7, a8]), Bool.and_false])
    · obtain rfl : k = s.size := by omega
      have HA := Lib.hid (idAll_yes hall.out)
      by_cases h1 : 1 ≤ s.size <;> by_cases h2 : s.size ≤ 255
      all_goals first | (exfalso; omega) | skip
      all_goals
        first
          | (have d1 : decide ((1 : Int) ≤ (s.size : Int)) = true := decide_eq_true (by omega)
             have p1 : (1 : Int) ≤ (s.size : Int) := by omega)
          | (have d1 : decide ((1 : Int) ≤ (s.size : Int)) = false := decide_eq_false (by omega)
             have p1 : ¬ ((1 : Int) ≤ (s.size : Int)) := by omega)
        first
          | (have d2 : decide ((s.size : Int) ≤ 255) = true := decide_eq_true (by omega)
             have p2 : (s.size : Int) ≤ 255 := by omega)
          | (have d2 : decide ((s.size : Int) ≤ 255) = false := decide_eq_false (by omega)
             have p2 : ¬ ((s.size : Int) ≤ 255) := by omega)
        have hr : Hid (idB s = (decide (1 ≤ s.size) && decide (s.size ≤ 255))) := by unfold Hid idB; rw [HA.out, Bool.and_true]
        go_wp2_with fail
        go_ret
        refine ⟨ret_boolI ?_, rfl⟩
        rw [hr.out]
        simp [h1, h2]
end Go.Proofs.YtanemojiaahbgaaGreatDoor
end

section
/- slices.Clone at api.Member, walked: a slice of the call's own with the same elements. -/
set_option linter.unusedSimpArgs false
set_option linter.unusedVariables false
namespace Go.Proofs.YtanemojiaahbgaaGreatDoor
open Go.RowKit

set_option maxRecDepth 100000 in
set_option maxHeartbeats 400000 in
theorem cloneM_any {α : Type} {enc : α → List Value} (C : Codec enc 6) (w : World) (p : Option Addr) (n c : Nat) (xs : List α) (hv : Rd w w.heap.size enc 6 (.slice p n c) xs) (hsz : xs.length * 96 ≤ 140737488355328) :
    Calls Tryz.prog 58 #[.slice p n c] w fun e w' => ∃ p' c', e = .returned (.slice p' n c') ∧ (p = none ↔ p' = none) ∧ Own w' w.heap.size 48 enc 6 (.slice p' n c') xs ∧ Below w.heap.size w w' := by
  have hn : n = xs.length := by
    obtain ⟨_, _, e, _⟩ := hv
    simp only [Value.slice.injEq] at e; exact e.2.1
  subst hn
  have HS := Lib.hid hsz
  have HV := Lib.hid hv
  cases p with
  | none =>
    have h0 : xs.length = 0 ∧ c = 0 := by
      obtain ⟨p', cap, he, hlc, hcm, hp0, hp⟩ := hv
      simp only [Value.slice.injEq] at he
      obtain ⟨rfl, h1, rfl⟩ := he
      have := hp0 rfl
      omega
    obtain ⟨h0, rfl⟩ := h0
    obtain rfl := List.eq_nil_of_length_eq_zero h0
    have hnil : ∀ W, (Go.binOp .eql 29 (.slice none 0 0) (.slice none 0 0)).run Tryz.prog W = .ok (.bool true) W := fun W => Lib.run_eql_slice_nil W 29 48 none 0 0 0 0 Tryz.underlying29
    clear hv
    go_enter Tryz.func58, Tryz.ntmps58
    go_wp2
    go_ret
    exact ⟨none, 0, rfl, by simp, Own.nil w _ _, Below.refl _ _⟩
  | some a =>
    have hnil : ∀ W, (Go.binOp .eql 29 (.slice (some a) xs.length c) (.slice none 0 0)).run Tryz.prog W = .ok (.bool false) W := fun W => Lib.run_eql_slice_nil W 29 48 (some a) xs.length c 0 0 Tryz.underlying29
    have hO : Own (w.alloc (.cells #[] 48)) w.heap.size 48 enc 6 (.slice (some ⟨w.heap.size, 0, none⟩) 0 0) ([] : List α) := Own.made (Nat.le_refl _)
    have hB0 : Below w.heap.size w (w.alloc (.cells #[] 48)) := (Below.refl _ _).alloc (Nat.le_refl _) _
    have HR := Lib.hid (HV.out.below hB0 (Nat.le_refl _))
    clear hv
    go_enter Tryz.func58, Tryz.ntmps58
    go_wp2_with (at_builtin; refine wpList_append_rd slM C (w.alloc (.cells #[] 48)) rfl (.tmp 5) (.tmp 6) rfl (v := .slice (some ⟨w.heap.size, 0, none⟩) 0 0) rfl rfl hO HR.out (by have := HS.out; simp; unfold maxLen; omega) (by have := HS.out; simp; omega) (by simp) ?_; intro v1 w1 ho1 hg1 hat1)
    have hb1 : Below w.heap.size w w1 := Below.appended hB0 hg1 hO (by simp)
    rw [List.nil_append] at ho1
    obtain ⟨p1, c1, rfl, _, _⟩ := ho1.len
    have hp1 : p1 ≠ none := by
      rintro rfl
      rcases hat1 with h | h <;> simp [Value.ownBlock] at h
    go_ret
    refine ⟨p1, c1, rfl, ⟨(fun h => by cases h), (fun h => absurd h hp1)⟩, ho1, hb1⟩
end Go.Proofs.YtanemojiaahbgaaGreatDoor
end

section
/- A member found; a map's own list of members; walked. -/
set_option linter.unusedSimpArgs false
set_option linter.unusedVariables false
namespace Go.Proofs.YtanemojiaahbgaaGreatDoor
open Go.RowKit Go.OpenShut

/-- A value and a truth are told. -/
def GetRet (w : World) (o : Option JV) (e : Ending) (w' : World) : Prop :=
  ∃ r b, e = .returned (.tuple #[RV.val r, .bool b]) ∧ b = o.isSome ∧ TreeOf w' w'.heap.size (o.getD JV.zero) r ∧ Below w.heap.size w w'

theorem getM {m : List (ByteArray × JV)} {name : ByteArray} {i : Nat} (h : m.findIdx? (fun p => decide (p.1 = name)) = some i) : ∃ p, m[i]? = some p ∧ p.1 = name := by
  rw [List.findIdx?_eq_some_iff_getElem] at h
  obtain ⟨h1, h2, _⟩ := h
  exact ⟨m[i], List.getElem?_eq_getElem h1, by simpa using h2⟩
theorem place_mem {t : JV} {name : ByteArray} {i : Nat} (h : t.place name = some i) : ∃ p, t.m[i]? = some p ∧ t.k = 6 ∧ t.get name = some p.2 := by
  obtain ⟨k, n, s, l, m⟩ := t
  have hp := h
  by_cases hk : k = 6
  · subst hk
    have e : (JV.mk 6 n s l m).mem = m := rfl
    unfold JV.place at h
    rw [e] at h
    obtain ⟨p, h1, h2⟩ := getM h
    refine ⟨p, h1, rfl, ?_⟩
    unfold JV.get
    rw [hp, e]
    simp [h1]
  · have e : (JV.mk k n s l m).mem = [] := by simp [JV.mem, hk]
    unfold JV.place at h
    rw [e] at h
    simp at h
/-- Five cells stored. -/
theorem VAt.stored {W : World} {g : Nat} {r : RV} (h : VAt W g r) (q : RV) :
    VAt (((((W.setCell ⟨g, 0, none⟩ (.int .i64 q.k)).setCell ⟨g, 1, none⟩ (.int .i64 q.n)).setCell ⟨g, 2, none⟩ (.string q.s)).setCell ⟨g, 3, none⟩ (.slice q.pl q.nl q.cl)).setCell ⟨g, 4, none⟩ (.slice q.pm q.nm q.cm)) g q := by
  unfold VAt at h ⊢
  simp [World.setCell, Array.getElem?_modify, h]
theorem VAt.frozen {W : World} {g : Nat} {r : RV} (h : VAt W g r) (j : Nat) : W.frozen? ⟨g, j, none⟩ = false := by
  unfold VAt at h
  simp [World.frozen?, h]
theorem Below.stored {B g : Nat} {w W : World} (h : Below B w W) (hg : B ≤ g) (q : RV) :
    Below B w (((((W.setCell ⟨g, 0, none⟩ (.int .i64 q.k)).setCell ⟨g, 1, none⟩ (.int .i64 q.n)).setCell ⟨g, 2, none⟩ (.string q.s)).setCell ⟨g, 3, none⟩ (.slice q.pl q.nl q.cl)).setCell ⟨g, 4, none⟩ (.slice q.pm q.nm q.cm)) :=
  ((((h.setCell (p := ⟨g, 0, none⟩) hg _).setCell (p := ⟨g, 1, none⟩) hg _).setCell (p := ⟨g, 2, none⟩) hg _).setCell (p := ⟨g, 3, none⟩) hg _).setCell (p := ⟨g, 4, none⟩) hg _

set_option maxRecDepth 100000 in
set_option maxHeartbeats 2000000 in
theorem get_any (t : JV) (r : RV) (name : ByteArray) (w : World) (ht : TreeOf w w.heap.size t r) (ot : t.Ok) :
    Calls Tryz.prog 42 #[r.val, .string name] w (GetRet w (t.get name)) := by
  obtain ⟨k, n, s, pl, nl, cl, pm, nm, cm⟩ := r
  dsimp only [RV.val] at *
  have HT := Lib.hid ht
  have HO := Lib.hid ot
  have hA0 : VAt ((w.alloc (.cells #[.int .i64 k, .int .i64 n, .string s, .slice pl nl cl, .slice pm nm cm] 31)).alloc (.cells #[.int .i64 0, .int .i64 0, .string ⟨#[]⟩, .slice none 0 0, .slice none 0 0] 31)) w.heap.size ⟨k, n, s, pl, nl, cl, pm, nm, cm⟩ := heap_alloc_lt (by simp) (heap_alloc_at rfl)
  have hA1 : VAt ((w.alloc (.cells #[.int .i64 k, .int .i64 n, .string s, .slice pl nl cl, .slice pm nm cm] 31)).alloc (.cells #[.int .i64 0, .int .i64 0, .string ⟨#[]⟩, .slice none 0 0, .slice none 0 0] 31)) (w.heap.size + 1) RV.zero := heap_alloc_at (by simp)
  have hB0 := below2 w (.cells #[.int .i64 k, .int .i64 n, .string s, .slice pl nl cl, .slice pm nm cm] 31) (.cells #[.int .i64 0, .int .i64 0, .string ⟨#[]⟩, .slice none 0 0, .slice none 0 0] 31)
  clear ht ot
  go_enter Tryz.func42, Tryz.ntmps42
  go_upto_region 1 with fail
  obtain ⟨W0, hW0⟩ : ∃ W0, ((w.alloc (.cells #[.int .i64 k, .int .i64 n, .string s, .slice pl nl cl, .slice pm nm cm] 31)).alloc (.cells #[.int .i64 0, .int .i64 0, .string ⟨#[]⟩, .slice none 0 0, .slice none 0 0] 31)) = W0 := ⟨_, rfl⟩
  rw [hW0] at hA0 hA1 hB0 ⊢
  clear hW0
  have p0 := hA0.cell 0 rfl
  have p1 := hA0.cell 1 rfl
  have p2 := hA0.cell 2 rfl
  have p3 := hA0.cell 3 rfl
  have p4 := hA0.cell 4 rfl
  go_upto_region 2 with (go_at_call 66; refine (place_any t ⟨k, n, s, pl, nl, cl, pm, nm, cm⟩ name _ (HT.out.under hB0 hB0.size) HO.out).mono ?_; rintro e w1 ⟨rfl, hb1⟩)
  have hzz : w.heap.size + 1 < W0.heap.size := hA1.lt
  have HA1 : VAt w1 (w.heap.size + 1) RV.zero := hA1.under hb1 hzz
  have HA0 : VAt w1 w.heap.size ⟨k, n, s, pl, nl, cl, pm, nm, cm⟩ := hA0.under hb1 (by omega)
  have HB1 := hB0.trans (hb1.mono hB0.size)
  have hTw := Lib.hid (HT.out.under HB1 (Nat.le_refl _))
  clear p0 p1 p2 p3 p4 hA0 hA1 hB0 hb1
  have z0 := HA1.cell 0 rfl
  have z1 := HA1.cell 1 rfl
  have z2 := HA1.cell 2 rfl
  have z3 := HA1.cell 3 rfl
  have z4 := HA1.cell 4 rfl
  have y0 := HA1.frozen 0
  have y1 := HA1.frozen 1
  have y2 := HA1.frozen 2
  have y3 := HA1.frozen 3
  have y4 := HA1.frozen 4
  have p4 := HA0.cell 4 rfl
  dsimp only [RV.zero] at z0 z1 z2 z3 z4 p4
  have HZ := Lib.hid HA1
  clear HA1 HA0
  generalize hp : t.place name = o
  cases o with
  | none =>
    have HG : Hid (t.get name = none) := by unfold Hid JV.get; rw [hp]; rfl
    have hn : placeI (none : Option Nat) = -1 := rfl
    rw [hn]
    clear hp hn
    go_wp2_with fail
    have HZ2 := HZ.out.stored RV.zero
    refine bodyPost_ret (v := .tuple #[RV.val RV.zero, .bool false]) (by simp [results, Tryz.results42, go_sem, RV.zero, z0, z1, z2, z3, z4]) rfl ⟨RV.zero, false, rfl, by rw [HG.out]; rfl, by rw [HG.out]; exact TreeOf.zero _ _, Below.stored HB1 (by omega) RV.zero⟩
  | some i =>
    obtain ⟨p, hm1, hk6, hget⟩ := place_mem hp
    have HG := Lib.hid hget
    have hn : placeI (some i) = (i : Int) := rfl
    rw [hn]
    clear hp hn hget
    have hT2 := hTw.out
    generalize hr : (⟨k, n, s, pl, nl, cl, pm, nm, cm⟩ : RV) = r at hT2
    cases hT2 with
    | @mk _ l m rs rms hl el hcl hm em hcn hcm =>
    subst hr
    dsimp only [JV.m] at *
    have hi := (List.getElem?_eq_some_iff.1 hm1).1
    obtain ⟨q, hq⟩ : ∃ q, rms[i]? = some q := ⟨_, List.getElem?_eq_getElem (by omega)⟩
    obtain ⟨b1, o1, rfl, hb1, hc1⟩ := rd_at' hm hq
    have HTq := Lib.hid (hcm i p q hm1 hq)
    have f0 := hc1 0 _ rfl
    have f1 := hc1 1 _ rfl
    have f2 := hc1 2 _ rfl
    have f3 := hc1 3 _ rfl
    have f4 := hc1 4 _ rfl
    have f5 := hc1 5 _ rfl
    have hi0 : (0 : Int) ≤ (i : Int) := Int.natCast_nonneg _
    have hi1 : (i : Int) < (nm : Int) := by have := rd_nlen hm; omega
    clear hcl hcn hcm hl hm em el hc1 hm1 hq
    go_wp2_with fail
    have HZ2 := HZ.out.stored q.v
    have HBs : Below w1.heap.size w1 w1 := Below.refl _ _
    refine bodyPost_ret (v := .tuple #[RV.val q.v, .bool true]) (by simp [results, Tryz.results42, go_sem, z0, z1, z2, z3, z4]) rfl ⟨q.v, true, rfl, by rw [HG.out]; rfl, ?_, Below.stored HB1 (by omega) q.v⟩
    rw [HG.out]
    exact HTq.out.under (Below.stored (Below.refl _ _) (by omega) q.v) (by have := HB1.size; simp; omega)
end Go.Proofs.YtanemojiaahbgaaGreatDoor
end

section
/- A map with another member; walked. -/
set_option linter.unusedSimpArgs false
set_option linter.unusedVariables false
namespace Go.Proofs.YtanemojiaahbgaaGreatDoor
open Go.RowKit Go.OpenShut

/-- Members' cells read as members. -/
structure MemsOf (w : World) (B : Nat) (ms : List (ByteArray × JV)) (rms : List RM) : Prop where
  len : ms.length = rms.length
  name : ∀ (i : Nat) (p : ByteArray × JV) (q : RM), ms[i]? = some p → rms[i]? = some q → p.1 = q.name
  val : ∀ (i : Nat) (p : ByteArray × JV) (q : RM), ms[i]? = some p → rms[i]? = some q → TreeOf w B p.2 q.v
theorem MemsOf.under {w w' : World} {B B' : Nat} {ms : List (ByteArray × JV)} {rms : List RM} (h : MemsOf w B ms rms) (hb : Below B w w') (hB : B ≤ B') : MemsOf w' B' ms rms :=
  ⟨h.len, h.name, fun i p q h1 h2 => (h.val i p q h1 h2).under hb hB⟩
theorem MemsOf.nil (w : World) (B : Nat) : MemsOf w B [] [] := ⟨rfl, fun i p q h => by simp at h, fun i p q h => by simp at h⟩
theorem MemsOf.set {w : World} {B : Nat} {ms : List (ByteArray × JV)} {rms : List RM} (h : MemsOf w B ms rms) (i : Nat) {p : ByteArray × JV} {q : RM} (hn : p.1 = q.name) (ht : TreeOf w B p.2 q.v) : MemsOf w B (ms.set i p) (rms.set i q) := by
  refine ⟨by rw [List.length_set, List.length_set, h.len], fun j a b h1 h2 => ?_, fun j a b h1 h2 => ?_⟩
  · rw [List.getElem?_set] at h1 h2
    split at h1
    · rename_i e
      rw [if_pos e] at h2
      split at h1
      · rw [if_pos (by rw [← h.len]; assumption)] at h2
        cases h1; cases h2; exact hn
      · cases h1
    · rename_i e
      rw [if_neg e] at h2
      exact h.name j a b h1 h2
  · rw [List.getElem?_set] at h1 h2
    split at h1
    · rename_i e
      rw [if_pos e] at h2
      split at h1
      · rw [if_pos (by rw [← h.len]; assumption)] at h2
        cases h1; cases h2; exact ht
      · cases h1
    · rename_i e
      rw [if_neg e] at h2
      exact h.val j a b h1 h2
theorem MemsOf.snoc {w : World} {B : Nat} {ms : List (ByteArray × JV)} {rms : List RM} (h : MemsOf w B ms rms) {p : ByteArray × JV} {q : RM} (hn : p.1 = q.name) (ht : TreeOf w B p.2 q.v) : MemsOf w B (ms ++ [p]) (rms ++ [q]) := by
  have key : ∀ (j : Nat) (a : ByteArray × JV) (b : RM), (ms ++ [p])[j]? = some a → (rms ++ [q])[j]? = some b → (ms[j]? = some a ∧ rms[j]? = some b) ∨ (a = p ∧ b = q) := by
    intro j a b h1 h2
    have hl := h.len
    by_cases hj : j < ms.length
    · rw [List.getElem?_append_left hj] at h1
      rw [List.getElem?_append_left (by omega)] at h2
      exact .inl ⟨h1, h2⟩
    · rw [List.getElem?_append_right (by omega)] at h1 h2
      have : j - ms.length = 0 := by
        have := (List.getElem?_eq_some_iff.1 h1).1
        simp at this; omega
      rw [this] at h1
      rw [← hl, this] at h2
      simp at h1 h2
      exact .inr ⟨h1.symm, h2.symm⟩
  refine ⟨by simp [h.len], fun j a b h1 h2 => ?_, fun j a b h1 h2 => ?_⟩
  · rcases key j a b h1 h2 with ⟨h1, h2⟩ | ⟨rfl, rfl⟩
    · exact h.name j a b h1 h2
    · exact hn
  · rcases key j a b h1 h2 with ⟨h1, h2⟩ | ⟨rfl, rfl⟩
    · exact h.val j a b h1 h2
    · exact ht
theorem TreeOf.mems {w : World} {B : Nat} {t : JV} {r : RV} (h : TreeOf w B t r) : ∃ rms, Rd w B encM 6 (.slice r.pm r.nm r.cm) rms ∧ MemsOf w B t.m rms ∧ t.k = r.k := by
  cases h with
  | mk hl el hcl hm em hcn hcm => exact ⟨_, hm, ⟨em, hcn, hcm⟩, rfl⟩
theorem TreeOf.map {w : World} {B base : Nat} {ms : List (ByteArray × JV)} {rms : List RM} {pm : Option Addr} {nm cm : Nat} (h : Own w base 48 encM 6 (.slice pm nm cm) rms) (hm : MemsOf w B ms rms) (hB : B ≤ w.heap.size) :
    TreeOf w w.heap.size (.mk 6 0 ⟨#[]⟩ [] ms) ⟨6, 0, ⟨#[]⟩, none, 0, 0, pm, nm, cm⟩ :=
  TreeOf.mk (r := ⟨6, 0, ⟨#[]⟩, none, 0, 0, pm, nm, cm⟩) (rs := []) (rms := rms) (Rd.nil _ _) rfl (fun i t q h => by simp at h) (h.rd codecM) hm.len hm.name (fun i p q h1 h2 => (hm.val i p q h1 h2).mono hB)

/-- What a map with a member of a name has. -/
def putM (o : Option Nat) (ms : List (ByteArray × JV)) (name : ByteArray) (x : JV) : List (ByteArray × JV) := match o with
  | some i => ms.set i (name, x)
  | none => ms ++ [(name, x)]
/-- A map is told: its list of members is the call's own. -/
def MapRet (w : World) (B : Nat) (ms : List (ByteArray × JV)) (e : Ending) (w' : World) : Prop :=
  ∃ pm nm cm rms, e = .returned (RV.val ⟨6, 0, ⟨#[]⟩, none, 0, 0, pm, nm, cm⟩) ∧ Own w' w.heap.size 48 encM 6 (.slice pm nm cm) rms ∧ MemsOf w' B ms rms ∧ Below w.heap.size w w'

theorem grownBy_set (W : World) (b o : Nat) (v : Value) : W.grownBy (W.setCell ⟨b, o, none⟩ v) (some b) :=
  ⟨rfl, rfl, rfl, by simp, fun k _ hk => heap_setCell_other W ⟨b, o, none⟩ k v (fun e => hk (by simp [e]))⟩
theorem grownBy_set5 (W : World) (g : Nat) (q : RV) : W.grownBy (((((W.setCell ⟨g, 0, none⟩ (.int .i64 q.k)).setCell ⟨g, 1, none⟩ (.int .i64 q.n)).setCell ⟨g, 2, none⟩ (.string q.s)).setCell ⟨g, 3, none⟩ (.slice q.pl q.nl q.cl)).setCell ⟨g, 4, none⟩ (.slice q.pm q.nm q.cm)) (some g) :=
  ((((grownBy_set W g 0 _).trans (grownBy_set _ g 1 _)).trans (grownBy_set _ g 2 _)).trans (grownBy_set _ g 3 _)).trans (grownBy_set _ g 4 _)
/-- A member's value stored into a list of the call's own. -/
theorem Own.storedV {w : World} {base : Nat} {g n cap : Nat} {xs : List RM} (h : Own w base 48 encM 6 (.slice (some ⟨g, 0, none⟩) n cap) xs) {k : Nat} {x : RM} (hx : xs[k]? = some x) (q : RV) :
    Own (((((w.setCell ⟨g, k * 6 + 1, none⟩ (.int .i64 q.k)).setCell ⟨g, k * 6 + 2, none⟩ (.int .i64 q.n)).setCell ⟨g, k * 6 + 3, none⟩ (.string q.s)).setCell ⟨g, k * 6 + 4, none⟩ (.slice q.pl q.nl q.cl)).setCell ⟨g, k * 6 + 5, none⟩ (.slice q.pm q.nm q.cm)) base 48 encM 6 (.slice (some ⟨g, 0, none⟩) n cap) (xs.set k ⟨x.name, q⟩) ∧
    w.grownBy (((((w.setCell ⟨g, k * 6 + 1, none⟩ (.int .i64 q.k)).setCell ⟨g, k * 6 + 2, none⟩ (.int .i64 q.n)).setCell ⟨g, k * 6 + 3, none⟩ (.string q.s)).setCell ⟨g, k * 6 + 4, none⟩ (.slice q.pl q.nl q.cl)).setCell ⟨g, k * 6 + 5, none⟩ (.slice q.pm q.nm q.cm)) (some g) := by
  have hk := (List.getElem?_eq_some_iff.1 hx).1
  have gs : ∀ (ys : List RM) (y : RM), k < ys.length → (ys.set k y)[k]? = some y := fun ys y hy => by simp [List.getElem?_set, hy]
  have s1 := Own.storedAt codecM h (j := 1) (y := ⟨x.name, { x.v with k := q.k }⟩) (u := .int .i64 q.k) hx (by decide) rfl
  have s2 := Own.storedAt codecM s1.1 (j := 2) (y := ⟨x.name, { x.v with k := q.k, n := q.n }⟩) (u := .int .i64 q.n) (gs _ _ hk) (by decide) rfl
  have s3 := Own.storedAt codecM s2.1 (j := 3) (y := ⟨x.name, { x.v with k := q.k, n := q.n, s := q.s }⟩) (u := .string q.s) (gs _ _ (by simpa using hk)) (by decide) rfl
  have s4 := Own.storedAt codecM s3.1 (j := 4) (y := ⟨x.name, { x.v with k := q.k, n := q.n, s := q.s, pl := q.pl, nl := q.nl, cl := q.cl }⟩) (u := .slice q.pl q.nl q.cl) (gs _ _ (by simpa using hk)) (by decide) rfl
  have s5 := Own.storedAt codecM s4.1 (j := 5) (y := ⟨x.name, q⟩) (u := .slice q.pm q.nm q.cm) (gs _ _ (by simpa using hk)) (by decide) rfl
  simp only [List.set_set] at s5
  exact ⟨s5.1, (((s1.2.trans s2.2).trans s3.2).trans s4.2).trans s5.2⟩

end Go.Proofs.YtanemojiaahbgaaGreatDoor
end

section
/- tree.With, walked. -/
set_option linter.unusedSimpArgs false
set_option linter.unusedVariables false
namespace Go.Proofs.YtanemojiaahbgaaGreatDoor
open Go.RowKit Go.OpenShut

theorem place_lt {t : JV} {name : ByteArray} {i : Nat} (h : t.place name = some i) : i < t.mem.length := by
  unfold JV.place at h
  rw [List.findIdx?_eq_some_iff_getElem] at h
  exact h.1

theorem VAt.set4 {W : World} {g : Nat} {r : RV} (h : VAt W g r) (p : Option Addr) (n c : Nat) : VAt (W.setCell ⟨g, 4, none⟩ (.slice p n c)) g { r with pm := p, nm := n, cm := c } := by
  unfold VAt at h ⊢
  simp [World.setCell, Array.getElem?_modify, h]

end Go.Proofs.YtanemojiaahbgaaGreatDoor
end

section
/- A call's own boxes and what is known of trees, carried from world to world. -/
set_option linter.unusedSimpArgs false
set_option linter.unusedVariables false
namespace Go.Proofs.YtanemojiaahbgaaGreatDoor
open Go.RowKit Go.OpenShut

/-- Below B the world is as W was. -/
def KB (B : Nat) (W w : World) : Prop := Below B W w ∧ ∀ b o, b < B → w.cell? ⟨b, o, none⟩ = W.cell? ⟨b, o, none⟩
theorem KB.mk {B : Nat} {W w : World} (h : Below B W w) : KB B W w := ⟨h, fun b o hb => h.cell (p := ⟨b, o, none⟩) hb⟩
theorem KB.fin {b B : Nat} {w W w' : World} (hk : KB B W w') (h : Below b w W) (hb : b ≤ B) : Below b w w' := h.trans (hk.1.mono hb)
theorem KB.refl (W : World) : KB W.heap.size W W := KB.mk (Below.refl _ _)
theorem KB.step {W w w' : World} (hk : KB W.heap.size W w) (h : Below w.heap.size w w') : KB W.heap.size W w' := KB.mk (hk.1.trans (h.mono hk.1.size))
theorem KB.drew (W : World) : KB W.heap.size W W.drew := KB.mk (Below.refl _ _).drew

/-- A value in a box of its own. -/
abbrev RV.obj (r : RV) : Obj := .cells #[.int .i64 r.k, .int .i64 r.n, .string r.s, .slice r.pl r.nl r.cl, .slice r.pm r.nm r.cm] 31

/-- What a walk knows at the world W: the boxes L, the trees T. -/
structure Ctx (b : Nat) (w0 W : World) (L : List (Nat × RV)) (T : List (JV × RV)) : Prop where
  below : Below b w0 W
  le : b ≤ W.heap.size
  loc : ∀ (i g : Nat) (r : RV), L[i]? = some (g, r) → g < W.heap.size ∧ VAt W g r
  tree : ∀ (i : Nat) (t : JV) (r : RV), T[i]? = some (t, r) → TreeOf W W.heap.size t r
theorem Ctx.nil (w : World) : Ctx w.heap.size w w [] [] := ⟨Below.refl _ _, Nat.le_refl _, fun i g r h => by simp at h, fun i t r h => by simp at h⟩
section
variable {b : Nat} {w0 W w : World} {L : List (Nat × RV)} {T : List (JV × RV)} (h : Ctx b w0 W L T)
include h
theorem Ctx.go (hb : Below W.heap.size W w) : Ctx b w0 w L T :=
  ⟨h.below.trans (hb.mono h.le), Nat.le_trans h.le hb.size, fun i g r hi => ⟨Nat.lt_of_lt_of_le (h.loc i g r hi).1 hb.size, (h.loc i g r hi).2.under hb (h.loc i g r hi).1⟩, fun i t r hi => (h.tree i t r hi).under hb hb.size⟩
theorem Ctx.alloc (x : RV) : Ctx b w0 (W.alloc x.obj) ((W.heap.size, x) :: L) T := by
  have g := h.go ((Below.refl _ _).alloc (Nat.le_refl _) x.obj)
  refine ⟨g.below, g.le, fun i k r hi => ?_, g.tree⟩
  cases i with
  | zero =>
    cases hi
    exact ⟨by simp, heap_alloc_at rfl⟩
  | succ i => exact g.loc i k r hi
theorem Ctx.know {t : JV} {x : RV} (hx : TreeOf W W.heap.size t x) : Ctx b w0 W L ((t, x) :: T) := by
  refine ⟨h.below, h.le, h.loc, fun i u r hi => ?_⟩
  cases i with
  | zero => cases hi; exact hx
  | succ i => exact h.tree i u r hi
theorem Ctx.box (hk : KB W.heap.size W w) {t : JV} {x : RV} (hx : TreeOf w w.heap.size t x) : Ctx b w0 (w.alloc x.obj) ((w.heap.size, x) :: L) ((t, x) :: T) :=
  ((h.go hk.1).know hx).alloc x
theorem Ctx.tk (hk : KB W.heap.size W w) (i : Nat) {t : JV} {r : RV} (hi : T[i]? = some (t, r)) : TreeOf w w.heap.size t r := (h.tree i t r hi).under hk.1 hk.1.size
theorem Ctx.lt (i : Nat) {g : Nat} {r : RV} (hi : L[i]? = some (g, r)) : g < W.heap.size := (h.loc i g r hi).1
theorem Ctx.at (i : Nat) {g : Nat} {r : RV} (hi : L[i]? = some (g, r)) : VAt W g r := (h.loc i g r hi).2
theorem Ctx.fin (hk : KB W.heap.size W w) : Below b w0 w := h.below.trans (hk.1.mono h.le)
end
end Go.Proofs.YtanemojiaahbgaaGreatDoor
end
