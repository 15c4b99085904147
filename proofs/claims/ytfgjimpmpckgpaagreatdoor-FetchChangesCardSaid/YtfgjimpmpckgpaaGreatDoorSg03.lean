import Derived.Test.YtfgjimpmpckgpaaGreatDoorSg00
import Derived.Test.YtfgjimpmpckgpaaGreatDoorSg01
import Derived.Test.YtfgjimpmpckgpaaGreatDoorSg02
set_option linter.unusedSimpArgs false
set_option linter.unusedVariables false
set_option maxRecDepth 200000
set_option maxHeartbeats 8000000
namespace Go.Proofs.YtfgjimpmpckgpaaGreatDoor
section
open Go Go.RowKit Go.OpenShut
theorem ret_boolI {a b : Bool} (h : a = b) : Ending.returned (.bool a) = .returned (.bool b) := by rw [h]
def idCh (c : UInt8) : Bool := decide (97 <= c.toNat) && decide (c.toNat <= 122) || decide (65 <= c.toNat) && decide (c.toNat <= 90) || decide (48 <= c.toNat) && decide (c.toNat <= 57) || decide (c.toNat = 45) || decide (c.toNat = 95)
def idAll (s : ByteArray) : Bool := s.data.toList.all idCh
def idB (s : ByteArray) : Bool := decide (1 <= s.size) && decide (s.size <= 255) && idAll s
theorem idAll_yes {s : ByteArray} (h : ∀ j, j < s.size -> idCh s[j]! = true) : idAll s = true := by
 unfold idAll
 rw [List.all_eq_true]
 intro c hc
 obtain ⟨j, hj, e⟩ := List.getElem_of_mem hc
 have hj' : j < s.size := by rw [<- str_len]; exact hj
 have := h j hj'
 rw [get_bang s j hj'] at this
 rw [<- e]
 exact this
theorem idAll_no {s : ByteArray} {j : Nat} (hj : j < s.size) (h : idCh s[j]! = false) : idAll s = false := by
 unfold idAll
 rw [List.all_eq_false]
 refine ⟨s[j], ?_, by rw [<- get_bang s j hj, h]; simp⟩
 exact List.getElem_mem (l := s.data.toList) (by rw [str_len]; exact hj)
theorem identIs_any (s : ByteArray) (w : World) (hs : s.size <= maxLen) : Calls Tryz.prog 15 #[.string s] w fun e w' => e = .returned (.bool (idB s)) /\ w' = w := by
 unfold maxLen at hs
 by_cases h1 : s.size < 1
 ·have HR : Hid (idB s = false) := by unfold Hid idB; rw [decide_eq_false (by omega)]; rfl
  have q1 : decide ((s.size : Int) < 1) = true := by simp; omega
  have q2 : (s.size : Int) < 1 := by omega
  have q3 : s.size < 1 := h1
  rw [HR.out]
  clear HR
  go_enter Tryz.func15, Tryz.ntmps15
  go_wp2_with fail
  go_ret
  exact ⟨rfl, rfl⟩
 ·by_cases h2 : 255 < s.size
  ·have HR : Hid (idB s = false) := by unfold Hid idB; rw [decide_eq_false (p := s.size <= 255) (by omega), Bool.and_false]; rfl
   have q1 : decide ((s.size : Int) < 1) = false := by simp; omega
   have q2 : ¬ (s.size : Int) < 1 := by omega
   have q4 : decide ((255 : Int) < (s.size : Int)) = true := by simp; omega
   have q5 : (255 : Int) < (s.size : Int) := by omega
   rw [HR.out]
   clear HR
   go_enter Tryz.func15, Tryz.ntmps15
   go_wp2_with fail
   go_ret
   exact ⟨rfl, rfl⟩
  ·have HR : Hid (idB s = idAll s) := by unfold Hid idB; rw [decide_eq_true (by omega), decide_eq_true (by omega)]; rfl
   have q1 : decide ((s.size : Int) < 1) = false := by simp; omega
   have q2 : ¬ (s.size : Int) < 1 := by omega
   have q4 : decide ((255 : Int) < (s.size : Int)) = false := by simp; omega
   have q5 : ¬ (255 : Int) < (s.size : Int) := by omega
   rw [HR.out]
   clear HR
   go_enter Tryz.func15, Tryz.ntmps15
   go_wp2_with fail
   go_loop [15] (fun i => ∃ k : Nat, k <= s.size /\ i = .int .i64 (k : Int) /\ Hid (∀ j, j < k -> idCh s[j]! = true)) (fun i => s.size - (intOf i).toNat)
   case atStart => exact ⟨0, Nat.zero_le _, rfl, fun j h => by omega⟩
   case round =>
    obtain ⟨k, hk, rfl, hall⟩ := hrel
    by_cases hlt : k < s.size
    ·have k0 : (0 : Int) <= (k : Int) := Int.natCast_nonneg _
     have k1 : (k : Int) < (s.size : Int) := by omega
     have b0 : (0 : Int) <= ((s[k].toNat : Nat) : Int) := Int.natCast_nonneg _
     have hcc : Hid (idCh s[k]! = idCh s[k]) := by unfold Hid; rw [get_bang s k hlt]
     obtain ⟨c, hc⟩ : ∃ c, s[k] = c := ⟨_, rfl⟩
     rw [hc] at hcc b0
     have HC := Lib.hid hc
     by_cases a1 : 97 <= c.toNat <;> by_cases a2 : c.toNat <= 122 <;> by_cases a3 : 65 <= c.toNat <;> by_cases a4 : c.toNat <= 90 <;> by_cases a5 : 48 <= c.toNat <;> by_cases a6 : c.toNat <= 57 <;> by_cases a7 : c.toNat = 45 <;> by_cases a8 : c.toNat = 95
     all_goals first | (exfalso; omega) | skip
     all_goals
      have hp : Hid (idCh c = (decide (97 <= c.toNat) && decide (c.toNat <= 122) || decide (65 <= c.toNat) && decide (c.toNat <= 90) || decide (48 <= c.toNat) && decide (c.toNat <= 57) || decide (c.toNat = 45) || decide (c.toNat = 95))) := rfl
      first
       | (have d1 : decide ((97 : Int) <= ((c.toNat : Nat) : Int)) = true := decide_eq_true (by omega)
          have p1 : (97 : Int) <= ((c.toNat : Nat) : Int) := by omega)
       | (have d1 : decide ((97 : Int) <= ((c.toNat : Nat) : Int)) = false := decide_eq_false (by omega)
          have p1 : ¬ ((97 : Int) <= ((c.toNat : Nat) : Int)) := by omega)
      first
       | (have d2 : decide (((c.toNat : Nat) : Int) <= 122) = true := decide_eq_true (by omega)
          have p2 : ((c.toNat : Nat) : Int) <= 122 := by omega)
       | (have d2 : decide (((c.toNat : Nat) : Int) <= 122) = false := decide_eq_false (by omega)
          have p2 : ¬ (((c.toNat : Nat) : Int) <= 122) := by omega)
      first
       | (have d3 : decide ((65 : Int) <= ((c.toNat : Nat) : Int)) = true := decide_eq_true (by omega)
          have p3 : (65 : Int) <= ((c.toNat : Nat) : Int) := by omega)
       | (have d3 : decide ((65 : Int) <= ((c.toNat : Nat) : Int)) = false := decide_eq_false (by omega)
          have p3 : ¬ ((65 : Int) <= ((c.toNat : Nat) : Int)) := by omega)
      first
       | (have d4 : decide (((c.toNat : Nat) : Int) <= 90) = true := decide_eq_true (by omega)
          have p4 : ((c.toNat : Nat) : Int) <= 90 := by omega)
       | (have d4 : decide (((c.toNat : Nat) : Int) <= 90) = false := decide_eq_false (by omega)
          have p4 : ¬ (((c.toNat : Nat) : Int) <= 90) := by omega)
      first
       | (have d5 : decide ((48 : Int) <= ((c.toNat : Nat) : Int)) = true := decide_eq_true (by omega)
          have p5 : (48 : Int) <= ((c.toNat : Nat) : Int) := by omega)
       | (have d5 : decide ((48 : Int) <= ((c.toNat : Nat) : Int)) = false := decide_eq_false (by omega)
          have p5 : ¬ ((48 : Int) <= ((c.toNat : Nat) : Int)) := by omega)
      first
       | (have d6 : decide (((c.toNat : Nat) : Int) <= 57) = true := decide_eq_true (by omega)
          have p6 : ((c.toNat : Nat) : Int) <= 57 := by omega)
       | (have d6 : decide (((c.toNat : Nat) : Int) <= 57) = false := decide_eq_false (by omega)
          have p6 : ¬ (((c.toNat : Nat) : Int) <= 57) := by omega)
      first
       | (have d7 : (((c.toNat : Nat) : Int) == 45) = true := by simp; omega)
       | (have d7 : (((c.toNat : Nat) : Int) == 45) = false := by simp; omega)
      first
       | (have d8 : (((c.toNat : Nat) : Int) == 95) = true := by simp; omega)
       | (have d8 : (((c.toNat : Nat) : Int) == 95) = false := by simp; omega)
      go_wp2_with fail
      first
       | (go_round
          case rel =>
           refine ⟨k + 1, by omega, by go_num, fun j hj => ?_⟩
           by_cases e : j = k
           ·subst e; rw [hcc.out, hp.out]; simp [a1, a2, a3, a4, a5, a6, a7, a8]
           ·exact hall.out j (by omega)
          case measure => simp [intOf]; omega)
       | (go_ret
          refine ⟨ret_boolI ?_, rfl⟩
          exact (idAll_no hlt (by rw [hcc.out, hp.out]; simp [a1, a2, a3, a4, a5, a6, a7, a8])).symm)
    ·obtain rfl : k = s.size := by omega
     go_wp2_with fail
     go_ret
     exact ⟨ret_boolI (idAll_yes hall.out).symm, rfl⟩
theorem refIs_any (s : ByteArray) (w : World) (hs : s.size <= maxLen) : Calls Tryz.prog 164 #[.string s] w fun e w' => e = .returned (.bool (idB s)) /\ w' = w := by
 unfold maxLen at hs
 go_enter Tryz.func164, Tryz.ntmps164
 go_wp2_with fail
 go_loop [3] (fun i => ∃ k : Nat, k <= s.size /\ i = .int .i64 (k : Int) /\ Hid (∀ j, j < k -> idCh s[j]! = true)) (fun i => s.size - (intOf i).toNat)
 case atStart => exact ⟨0, Nat.zero_le _, rfl, fun j h => by omega⟩
 case round =>
  obtain ⟨k, hk, rfl, hall⟩ := hrel
  by_cases hlt : k < s.size
  ·have k0 : (0 : Int) <= (k : Int) := Int.natCast_nonneg _
   have k1 : (k : Int) < (s.size : Int) := by omega
   have b0 : (0 : Int) <= ((s[k].toNat : Nat) : Int) := Int.natCast_nonneg _
   have hcc : Hid (idCh s[k]! = idCh s[k]) := by unfold Hid; rw [get_bang s k hlt]
   obtain ⟨c, hc⟩ : ∃ c, s[k] = c := ⟨_, rfl⟩
   rw [hc] at hcc b0
   have HC := Lib.hid hc
   by_cases a1 : 97 <= c.toNat <;> by_cases a2 : c.toNat <= 122 <;> by_cases a3 : 65 <= c.toNat <;> by_cases a4 : c.toNat <= 90 <;> by_cases a5 : 48 <= c.toNat <;> by_cases a6 : c.toNat <= 57 <;> by_cases a7 : c.toNat = 45 <;> by_cases a8 : c.toNat = 95
   all_goals first | (exfalso; omega) | skip
   all_goals
    have hp : Hid (idCh c = (decide (97 <= c.toNat) && decide (c.toNat <= 122) || decide (65 <= c.toNat) && decide (c.toNat <= 90) || decide (48 <= c.toNat) && decide (c.toNat <= 57) || decide (c.toNat = 45) || decide (c.toNat = 95))) := rfl
    first
     | (have d1 : decide (((c.toNat : Nat) : Int) < 97) = true := decide_eq_true (by omega)
        have p1 : ((c.toNat : Nat) : Int) < 97 := by omega)
     | (have d1 : decide (((c.toNat : Nat) : Int) < 97) = false := decide_eq_false (by omega)
        have p1 : ¬ (((c.toNat : Nat) : Int) < 97) := by omega)
    first
     | (have d2 : decide ((122 : Int) < ((c.toNat : Nat) : Int)) = true := decide_eq_true (by omega)
        have p2 : (122 : Int) < ((c.toNat : Nat) : Int) := by omega)
     | (have d2 : decide ((122 : Int) < ((c.toNat : Nat) : Int)) = false := decide_eq_false (by omega)
        have p2 : ¬ ((122 : Int) < ((c.toNat : Nat) : Int)) := by omega)
    first
     | (have d3 : decide (((c.toNat : Nat) : Int) < 65) = true := decide_eq_true (by omega)
        have p3 : ((c.toNat : Nat) : Int) < 65 := by omega)
     | (have d3 : decide (((c.toNat : Nat) : Int) < 65) = false := decide_eq_false (by omega)
        have p3 : ¬ (((c.toNat : Nat) : Int) < 65) := by omega)
    first
     | (have d4 : decide ((90 : Int) < ((c.toNat : Nat) : Int)) = true := decide_eq_true (by omega)
        have p4 : (90 : Int) < ((c.toNat : Nat) : Int) := by omega)
     | (have d4 : decide ((90 : Int) < ((c.toNat : Nat) : Int)) = false := decide_eq_false (by omega)
        have p4 : ¬ ((90 : Int) < ((c.toNat : Nat) : Int)) := by omega)
    first
     | (have d5 : decide (((c.toNat : Nat) : Int) < 48) = true := decide_eq_true (by omega)
        have p5 : ((c.toNat : Nat) : Int) < 48 := by omega)
     | (have d5 : decide (((c.toNat : Nat) : Int) < 48) = false := decide_eq_false (by omega)
        have p5 : ¬ (((c.toNat : Nat) : Int) < 48) := by omega)
    first
     | (have d6 : decide ((57 : Int) < ((c.toNat : Nat) : Int)) = true := decide_eq_true (by omega)
        have p6 : (57 : Int) < ((c.toNat : Nat) : Int) := by omega)
     | (have d6 : decide ((57 : Int) < ((c.toNat : Nat) : Int)) = false := decide_eq_false (by omega)
        have p6 : ¬ ((57 : Int) < ((c.toNat : Nat) : Int)) := by omega)
    first
     | (have d7 : (((c.toNat : Nat) : Int) != 45) = true := by simp; omega)
     | (have d7 : (((c.toNat : Nat) : Int) != 45) = false := by simp; omega)
    first
     | (have d8 : (((c.toNat : Nat) : Int) != 95) = true := by simp; omega)
     | (have d8 : (((c.toNat : Nat) : Int) != 95) = false := by simp; omega)
    go_wp2_with fail
    first
     | (go_round
        case rel =>
         refine ⟨k + 1, by omega, by go_num, fun j hj => ?_⟩
         by_cases e : j = k
         ·subst e; rw [hcc.out, hp.out]; simp [a1, a2, a3, a4, a5, a6, a7, a8]
         ·exact hall.out j (by omega)
        case measure => simp [intOf]; omega)
     | (go_ret
        refine ⟨ret_boolI ?_, rfl⟩
        unfold idB
        rw [idAll_no hlt (by rw [hcc.out, hp.out]; simp [a1, a2, a3, a4, a5, a6, a7, a8]), Bool.and_false])
  ·obtain rfl : k = s.size := by omega
   have HA := Lib.hid (idAll_yes hall.out)
   by_cases h1 : 1 <= s.size <;> by_cases h2 : s.size <= 255
   all_goals first | (exfalso; omega) | skip
   all_goals
    first
     | (have d1 : decide ((1 : Int) <= (s.size : Int)) = true := decide_eq_true (by omega)
        have p1 : (1 : Int) <= (s.size : Int) := by omega)
     | (have d1 : decide ((1 : Int) <= (s.size : Int)) = false := decide_eq_false (by omega)
        have p1 : ¬ ((1 : Int) <= (s.size : Int)) := by omega)
    first
     | (have d2 : decide ((s.size : Int) <= 255) = true := decide_eq_true (by omega)
        have p2 : (s.size : Int) <= 255 := by omega)
     | (have d2 : decide ((s.size : Int) <= 255) = false := decide_eq_false (by omega)
        have p2 : ¬ ((s.size : Int) <= 255) := by omega)
    have hr : Hid (idB s = (decide (1 <= s.size) && decide (s.size <= 255))) := by unfold Hid idB; rw [HA.out, Bool.and_true]
    go_wp2_with fail
    go_ret
    refine ⟨ret_boolI ?_, rfl⟩
    rw [hr.out]
    simp [h1, h2]
end
section
open Go.RowKit
theorem cloneM_any {α : Type} {enc : α -> List Value} (C : Codec enc 6) (w : World) (p : Option Addr) (n c : Nat) (xs : List α) (hv : Rd w w.heap.size enc 6 (.slice p n c) xs) (hsz : xs.length * 96 <= 140737488355328) :
 Calls Tryz.prog 82 #[.slice p n c] w fun e w' => ∃ p' c', e = .returned (.slice p' n c') /\ (p = none ↔ p' = none) /\ Own w' w.heap.size 81 enc 6 (.slice p' n c') xs /\ Below w.heap.size w w' := by
 have hn : n = xs.length := by
  obtain ⟨_, _, e, _⟩ := hv
  simp only [Value.slice.injEq] at e; exact e.2.1
 subst hn
 have HS := Lib.hid hsz
 have HV := Lib.hid hv
 cases p with
 | none =>
   have h0 : xs.length = 0 /\ c = 0 := by
    obtain ⟨p', cap, he, hlc, hcm, hp0, hp⟩ := hv
    simp only [Value.slice.injEq] at he
    obtain ⟨rfl, h1, rfl⟩ := he
    have := hp0 rfl
    omega
   obtain ⟨h0, rfl⟩ := h0
   obtain rfl := List.eq_nil_of_length_eq_zero h0
   have hnil : ∀ W, (Go.binOp .eql 29 (.slice none 0 0) (.slice none 0 0)).run Tryz.prog W = .ok (.bool true) W := fun W => Lib.run_eql_slice_nil W 29 81 none 0 0 0 0 Tryz.underlying29
   clear hv
   go_enter Tryz.func82, Tryz.ntmps82
   go_wp2
   go_ret
   exact ⟨none, 0, rfl, by simp, Own.nil w _ _, Below.refl _ _⟩
 | some a =>
   have hnil : ∀ W, (Go.binOp .eql 29 (.slice (some a) xs.length c) (.slice none 0 0)).run Tryz.prog W = .ok (.bool false) W := fun W => Lib.run_eql_slice_nil W 29 81 (some a) xs.length c 0 0 Tryz.underlying29
   have hO : Own (w.alloc (.cells #[] 81)) w.heap.size 81 enc 6 (.slice (some ⟨w.heap.size, 0, none⟩) 0 0) ([] : List α) := Own.made (Nat.le_refl _)
   have hB0 : Below w.heap.size w (w.alloc (.cells #[] 81)) := (Below.refl _ _).alloc (Nat.le_refl _) _
   have HR := Lib.hid (HV.out.below hB0 (Nat.le_refl _))
   clear hv
   go_enter Tryz.func82, Tryz.ntmps82
   go_wp2_with (at_builtin; refine wpList_append_rd slM C (w.alloc (.cells #[] 81)) rfl (.tmp 5) (.tmp 6) rfl (v := .slice (some ⟨w.heap.size, 0, none⟩) 0 0) rfl rfl hO HR.out (by have := HS.out; simp; unfold maxLen; omega) (by have := HS.out; simp; omega) (by simp) ?_; intro v1 w1 ho1 hg1 hat1)
   have hb1 : Below w.heap.size w w1 := Below.appended hB0 hg1 hO (by simp)
   rw [List.nil_append] at ho1
   obtain ⟨p1, c1, rfl, _, _⟩ := ho1.len
   have hp1 : p1 ≠ none := by
    rintro rfl
    rcases hat1 with h | h <;> simp [Value.ownBlock] at h
   go_ret
   refine ⟨p1, c1, rfl, ⟨(fun h => by cases h), (fun h => absurd h hp1)⟩, ho1, hb1⟩
end
section
open Go.RowKit Go.OpenShut
theorem getM {m : List (ByteArray × JV)} {name : ByteArray} {i : Nat} (h : m.findIdx? (fun p => decide (p.1 = name)) = some i) : ∃ p, m[i]? = some p /\ p.1 = name := by
 rw [List.findIdx?_eq_some_iff_getElem] at h
 obtain ⟨h1, h2, _⟩ := h
 exact ⟨m[i], List.getElem?_eq_getElem h1, by simpa using h2⟩
theorem place_mem {t : JV} {name : ByteArray} {i : Nat} (h : t.place name = some i) : ∃ p, t.m[i]? = some p /\ t.k = 6 /\ t.get name = some p.2 := by
 obtain ⟨k, n, s, l, m⟩ := t
 have hp := h
 by_cases hk : k = 6
 ·subst hk
  have e : (JV.mk 6 n s l m).mem = m := rfl
  unfold JV.place at h
  rw [e] at h
  obtain ⟨p, h1, h2⟩ := getM h
  refine ⟨p, h1, rfl, ?_⟩
  unfold JV.get
  rw [hp, e]
  simp [h1]
 ·have e : (JV.mk k n s l m).mem = [] := by simp [JV.mem, hk]
  unfold JV.place at h
  rw [e] at h
  simp at h
theorem VAt.stored {W : World} {g : Nat} {r : RV} (h : VAt W g r) (q : RV) :
 VAt (((((W.setCell ⟨g, 0, none⟩ (.int .i64 q.k)).setCell ⟨g, 1, none⟩ (.int .i64 q.n)).setCell ⟨g, 2, none⟩ (.string q.s)).setCell ⟨g, 3, none⟩ (.slice q.pl q.nl q.cl)).setCell ⟨g, 4, none⟩ (.slice q.pm q.nm q.cm)) g q := by
 unfold VAt at h ⊢
 simp [World.setCell, Array.getElem?_modify, h]
theorem VAt.frozen {W : World} {g : Nat} {r : RV} (h : VAt W g r) (j : Nat) : W.frozen? ⟨g, j, none⟩ = false := by
 unfold VAt at h
 simp [World.frozen?, h]
theorem Below.stored {B g : Nat} {w W : World} (h : Below B w W) (hg : B <= g) (q : RV) :
 Below B w (((((W.setCell ⟨g, 0, none⟩ (.int .i64 q.k)).setCell ⟨g, 1, none⟩ (.int .i64 q.n)).setCell ⟨g, 2, none⟩ (.string q.s)).setCell ⟨g, 3, none⟩ (.slice q.pl q.nl q.cl)).setCell ⟨g, 4, none⟩ (.slice q.pm q.nm q.cm)) :=
 ((((h.setCell (p := ⟨g, 0, none⟩) hg _).setCell (p := ⟨g, 1, none⟩) hg _).setCell (p := ⟨g, 2, none⟩) hg _).setCell (p := ⟨g, 3, none⟩) hg _).setCell (p := ⟨g, 4, none⟩) hg _
structure MemsOf (w : World) (B : Nat) (ms : List (ByteArray × JV)) (rms : List RM) : Prop where
 len : ms.length = rms.length
 name : ∀ (i : Nat) (p : ByteArray × JV) (q : RM), ms[i]? = some p -> rms[i]? = some q -> p.1 = q.name
 val : ∀ (i : Nat) (p : ByteArray × JV) (q : RM), ms[i]? = some p -> rms[i]? = some q -> TreeOf w B p.2 q.v
theorem MemsOf.under {w w' : World} {B B' : Nat} {ms : List (ByteArray × JV)} {rms : List RM} (h : MemsOf w B ms rms) (hb : Below B w w') (hB : B <= B') : MemsOf w' B' ms rms :=
 ⟨h.len, h.name, fun i p q h1 h2 => (h.val i p q h1 h2).under hb hB⟩
theorem MemsOf.nil (w : World) (B : Nat) : MemsOf w B [] [] := ⟨rfl, fun i p q h => by simp at h, fun i p q h => by simp at h⟩
theorem MemsOf.set {w : World} {B : Nat} {ms : List (ByteArray × JV)} {rms : List RM} (h : MemsOf w B ms rms) (i : Nat) {p : ByteArray × JV} {q : RM} (hn : p.1 = q.name) (ht : TreeOf w B p.2 q.v) : MemsOf w B (ms.set i p) (rms.set i q) := by
 refine ⟨by rw [List.length_set, List.length_set, h.len], fun j a b h1 h2 => ?_, fun j a b h1 h2 => ?_⟩
 ·rw [List.getElem?_set] at h1 h2
  split at h1
  ·rename_i e
   rw [if_pos e] at h2
   split at h1
   ·rw [if_pos (by rw [<- h.len]; assumption)] at h2
    cases h1; cases h2; exact hn
   ·cases h1
  ·rename_i e
   rw [if_neg e] at h2
   exact h.name j a b h1 h2
 ·rw [List.getElem?_set] at h1 h2
  split at h1
  ·rename_i e
   rw [if_pos e] at h2
   split at h1
   ·rw [if_pos (by rw [<- h.len]; assumption)] at h2
    cases h1; cases h2; exact ht
   ·cases h1
  ·rename_i e
   rw [if_neg e] at h2
   exact h.val j a b h1 h2
theorem MemsOf.snoc {w : World} {B : Nat} {ms : List (ByteArray × JV)} {rms : List RM} (h : MemsOf w B ms rms) {p : ByteArray × JV} {q : RM} (hn : p.1 = q.name) (ht : TreeOf w B p.2 q.v) : MemsOf w B (ms ++ [p]) (rms ++ [q]) := by
 have key : ∀ (j : Nat) (a : ByteArray × JV) (b : RM), (ms ++ [p])[j]? = some a -> (rms ++ [q])[j]? = some b -> (ms[j]? = some a /\ rms[j]? = some b) \/ (a = p /\ b = q) := by
  intro j a b h1 h2
  have hl := h.len
  by_cases hj : j < ms.length
  ·rw [List.getElem?_append_left hj] at h1
   rw [List.getElem?_append_left (by omega)] at h2
   exact .inl ⟨h1, h2⟩
  ·rw [List.getElem?_append_right (by omega)] at h1 h2
   have : j - ms.length = 0 := by
    have := (List.getElem?_eq_some_iff.1 h1).1
    simp at this; omega
   rw [this] at h1
   rw [<- hl, this] at h2
   simp at h1 h2
   exact .inr ⟨h1.symm, h2.symm⟩
 refine ⟨by simp [h.len], fun j a b h1 h2 => ?_, fun j a b h1 h2 => ?_⟩
 ·rcases key j a b h1 h2 with ⟨h1, h2⟩ | ⟨rfl, rfl⟩
  ·exact h.name j a b h1 h2
  ·exact hn
 ·rcases key j a b h1 h2 with ⟨h1, h2⟩ | ⟨rfl, rfl⟩
  ·exact h.val j a b h1 h2
  ·exact ht
theorem TreeOf.mems {w : World} {B : Nat} {t : JV} {r : RV} (h : TreeOf w B t r) : ∃ rms, Rd w B encM 6 (.slice r.pm r.nm r.cm) rms /\ MemsOf w B t.m rms /\ t.k = r.k := by
 cases h with
 | mk hl el hcl hm em hcn hcm => exact ⟨_, hm, ⟨em, hcn, hcm⟩, rfl⟩
theorem TreeOf.map {w : World} {B base : Nat} {ms : List (ByteArray × JV)} {rms : List RM} {pm : Option Addr} {nm cm : Nat} (h : Own w base 81 encM 6 (.slice pm nm cm) rms) (hm : MemsOf w B ms rms) (hB : B <= w.heap.size) :
 TreeOf w w.heap.size (.mk 6 0 ⟨#[]⟩ [] ms) ⟨6, 0, ⟨#[]⟩, none, 0, 0, pm, nm, cm⟩ :=
 TreeOf.mk (r := ⟨6, 0, ⟨#[]⟩, none, 0, 0, pm, nm, cm⟩) (rs := []) (rms := rms) (Rd.nil _ _) rfl (fun i t q h => by simp at h) (h.rd codecM) hm.len hm.name (fun i p q h1 h2 => (hm.val i p q h1 h2).mono hB)
def MapRet (w : World) (B : Nat) (ms : List (ByteArray × JV)) (e : Ending) (w' : World) : Prop :=
 ∃ pm nm cm rms, e = .returned (RV.val ⟨6, 0, ⟨#[]⟩, none, 0, 0, pm, nm, cm⟩) /\ Own w' w.heap.size 81 encM 6 (.slice pm nm cm) rms /\ MemsOf w' B ms rms /\ Below w.heap.size w w'
theorem grownBy_set (W : World) (b o : Nat) (v : Value) : W.grownBy (W.setCell ⟨b, o, none⟩ v) (some b) :=
 ⟨rfl, rfl, rfl, by simp, fun k _ hk => heap_setCell_other W ⟨b, o, none⟩ k v (fun e => hk (by simp [e]))⟩
theorem grownBy_set5 (W : World) (g : Nat) (q : RV) : W.grownBy (((((W.setCell ⟨g, 0, none⟩ (.int .i64 q.k)).setCell ⟨g, 1, none⟩ (.int .i64 q.n)).setCell ⟨g, 2, none⟩ (.string q.s)).setCell ⟨g, 3, none⟩ (.slice q.pl q.nl q.cl)).setCell ⟨g, 4, none⟩ (.slice q.pm q.nm q.cm)) (some g) :=
 ((((grownBy_set W g 0 _).trans (grownBy_set _ g 1 _)).trans (grownBy_set _ g 2 _)).trans (grownBy_set _ g 3 _)).trans (grownBy_set _ g 4 _)
theorem VAt.set4 {W : World} {g : Nat} {r : RV} (h : VAt W g r) (p : Option Addr) (n c : Nat) : VAt (W.setCell ⟨g, 4, none⟩ (.slice p n c)) g { r with pm := p, nm := n, cm := c } := by
 unfold VAt at h ⊢
 simp [World.setCell, Array.getElem?_modify, h]
def KB (B : Nat) (W w : World) : Prop := Below B W w /\ ∀ b o, b < B -> w.cell? ⟨b, o, none⟩ = W.cell? ⟨b, o, none⟩
theorem KB.mk {B : Nat} {W w : World} (h : Below B W w) : KB B W w := ⟨h, fun b o hb => h.cell (p := ⟨b, o, none⟩) hb⟩
theorem KB.fin {b B : Nat} {w W w' : World} (hk : KB B W w') (h : Below b w W) (hb : b <= B) : Below b w w' := h.trans (hk.1.mono hb)
theorem KB.refl (W : World) : KB W.heap.size W W := KB.mk (Below.refl _ _)
theorem KB.step {W w w' : World} (hk : KB W.heap.size W w) (h : Below w.heap.size w w') : KB W.heap.size W w' := KB.mk (hk.1.trans (h.mono hk.1.size))
theorem KB.drew (W : World) : KB W.heap.size W W.drew := KB.mk (Below.refl _ _).drew
abbrev RV.obj (r : RV) : Obj := .cells #[.int .i64 r.k, .int .i64 r.n, .string r.s, .slice r.pl r.nl r.cl, .slice r.pm r.nm r.cm] 31
structure Ctx (b : Nat) (w0 W : World) (L : List (Nat × RV)) (T : List (JV × RV)) : Prop where
 below : Below b w0 W
 le : b <= W.heap.size
 loc : ∀ (i g : Nat) (r : RV), L[i]? = some (g, r) -> g < W.heap.size /\ VAt W g r
 tree : ∀ (i : Nat) (t : JV) (r : RV), T[i]? = some (t, r) -> TreeOf W W.heap.size t r
theorem Ctx.nil (w : World) : Ctx w.heap.size w w [] [] := ⟨Below.refl _ _, Nat.le_refl _, fun i g r h => by simp at h, fun i t r h => by simp at h⟩
section
variable {b : Nat} {w0 W w : World} {L : List (Nat × RV)} {T : List (JV × RV)} (h : Ctx b w0 W L T)
include h
theorem Ctx.go (hb : Below W.heap.size W w) : Ctx b w0 w L T :=
 ⟨h.below.trans (hb.mono h.le), Nat.le_trans h.le hb.size, fun i g r hi => ⟨Nat.lt_of_lt_of_le (h.loc i g r hi).1 hb.size, (h.loc i g r hi).2.under hb (h.loc i g r hi).1⟩, fun i t r hi => (h.tree i t r hi).under hb hb.size⟩
theorem Ctx.alloc (x : RV) : Ctx b w0 (W.alloc x.obj) ((W.heap.size, x) :: L) T := by
 have g := h.go ((Below.refl _ _).alloc (Nat.le_refl _) x.obj)
 refine ⟨g.below, g.le, fun i k r hi => ?_, g.tree⟩
 cases i with
 | zero =>
   cases hi
   exact ⟨by simp, heap_alloc_at rfl⟩
 | succ i => exact g.loc i k r hi
theorem Ctx.know {t : JV} {x : RV} (hx : TreeOf W W.heap.size t x) : Ctx b w0 W L ((t, x) :: T) := by
 refine ⟨h.below, h.le, h.loc, fun i u r hi => ?_⟩
 cases i with
 | zero => cases hi; exact hx
 | succ i => exact h.tree i u r hi
theorem Ctx.box (hk : KB W.heap.size W w) {t : JV} {x : RV} (hx : TreeOf w w.heap.size t x) : Ctx b w0 (w.alloc x.obj) ((w.heap.size, x) :: L) ((t, x) :: T) :=
 ((h.go hk.1).know hx).alloc x
theorem Ctx.lt (i : Nat) {g : Nat} {r : RV} (hi : L[i]? = some (g, r)) : g < W.heap.size := (h.loc i g r hi).1
theorem Ctx.at (i : Nat) {g : Nat} {r : RV} (hi : L[i]? = some (g, r)) : VAt W g r := (h.loc i g r hi).2
theorem Ctx.fin (hk : KB W.heap.size W w) : Below b w0 w := h.below.trans (hk.1.mono h.le)
end
end
section
open Go Go.RowKit Go.OpenShut
theorem may2_any (s : ByteArray) (w : World) : Calls Tryz.prog 147 #[.string s] w fun e w' => e = .returned (.bool true) /\ w' = w := by
 go_enter Tryz.func147, Tryz.ntmps147
 go_wp2_with fail
 go_ret
 exact ⟨rfl, rfl⟩
theorem notId_any (x : RV) (g : Nat) (w : World) (hg : w.cell? ⟨g, 0, none⟩ = some (.func (.func 15) #[] #[])) (hs : x.s.size <= maxLen) :
 Calls Tryz.prog 177 #[x.val, .pointer (some ⟨g, 0, none⟩)] w fun e w' => e = .returned (.bool (!(decide (x.k = 4) && idB x.s))) /\ Below w.heap.size w w' := by
 obtain ⟨k, n, s, pl, nl, cl, pm, nm, cm⟩ := x
 dsimp only [RV.val] at *
 have hlt := (cell_some hg).2
 have hB : Below w.heap.size w (w.alloc (.cells #[.int .i64 k, .int .i64 n, .string s, .slice pl nl cl, .slice pm nm cm] 31)) := (Below.refl _ _).alloc (Nat.le_refl _) _
 have hc := bcs hB hlt hg
 have hA : VAt (w.alloc (.cells #[.int .i64 k, .int .i64 n, .string s, .slice pl nl cl, .slice pm nm cm] 31)) w.heap.size ⟨k, n, s, pl, nl, cl, pm, nm, cm⟩ := heap_alloc_at rfl
 have HC : Hid (∀ W, Calls Tryz.prog 15 #[.string s] W fun e w' => e = .returned (.bool (idB s)) /\ w' = W) := fun W => identIs_any s W hs
 obtain ⟨W0, hW0⟩ : ∃ W, w.alloc (.cells #[.int .i64 k, .int .i64 n, .string s, .slice pl nl cl, .slice pm nm cm] 31) = W := ⟨_, rfl⟩
 rw [hW0] at hB hc hA
 have HB := Lib.hid hB
 have HA := Lib.hid hA
 clear hB hA hg
 by_cases h4 : k = 4
 ·subst h4
  cases hb : idB s
  all_goals
   rw [hb] at HC
   clear hb
   go_enter Tryz.func177, Tryz.ntmps177
   go_upto_region 1 with fail
   try rw [hW0]
   clear hW0
   obtain ⟨a0, a1, a2, a3, a4⟩ := HA.out.cells5
   go_wp2_with (go_at_call 15; refine (HC.out _).mono ?_; rintro e w1 ⟨rfl, rfl⟩)
   go_ret
   exact ⟨by simp, HB.out⟩
 ·have hq : (k != 4) = true := by simpa using h4
  have HR : Hid ((!(decide (k = 4) && idB s)) = true) := by unfold Hid; rw [decide_eq_false h4]; rfl
  rw [HR.out]
  clear HR h4
  go_enter Tryz.func177, Tryz.ntmps177
  go_upto_region 1 with fail
  try rw [hW0]
  clear hW0
  obtain ⟨a0, a1, a2, a3, a4⟩ := HA.out.cells5
  go_wp2_with fail
  go_ret
  exact ⟨rfl, HB.out⟩
theorem notTx_any (x : RV) (g : Nat) (w : World) (hg : w.cell? ⟨g, 0, none⟩ = some (.func (.func 147) #[] #[])) (hs : x.s.size <= maxLen) :
 Calls Tryz.prog 177 #[x.val, .pointer (some ⟨g, 0, none⟩)] w fun e w' => e = .returned (.bool (!(decide (x.k = 4) && true))) /\ Below w.heap.size w w' := by
 obtain ⟨k, n, s, pl, nl, cl, pm, nm, cm⟩ := x
 dsimp only [RV.val] at *
 have hlt := (cell_some hg).2
 have hB : Below w.heap.size w (w.alloc (.cells #[.int .i64 k, .int .i64 n, .string s, .slice pl nl cl, .slice pm nm cm] 31)) := (Below.refl _ _).alloc (Nat.le_refl _) _
 have hc := bcs hB hlt hg
 have hA : VAt (w.alloc (.cells #[.int .i64 k, .int .i64 n, .string s, .slice pl nl cl, .slice pm nm cm] 31)) w.heap.size ⟨k, n, s, pl, nl, cl, pm, nm, cm⟩ := heap_alloc_at rfl
 have HC : Hid (∀ W, Calls Tryz.prog 147 #[.string s] W fun e w' => e = .returned (.bool (true)) /\ w' = W) := fun W => may2_any s W
 obtain ⟨W0, hW0⟩ : ∃ W, w.alloc (.cells #[.int .i64 k, .int .i64 n, .string s, .slice pl nl cl, .slice pm nm cm] 31) = W := ⟨_, rfl⟩
 rw [hW0] at hB hc hA
 have HB := Lib.hid hB
 have HA := Lib.hid hA
 clear hB hA hg
 by_cases h4 : k = 4
 ·subst h4
  cases hb : true
  all_goals
   rw [hb] at HC
   clear hb
   go_enter Tryz.func177, Tryz.ntmps177
   go_upto_region 1 with fail
   try rw [hW0]
   clear hW0
   obtain ⟨a0, a1, a2, a3, a4⟩ := HA.out.cells5
   go_wp2_with (go_at_call 147; refine (HC.out _).mono ?_; rintro e w1 ⟨rfl, rfl⟩)
   go_ret
   exact ⟨by simp, HB.out⟩
 ·have hq : (k != 4) = true := by simpa using h4
  have HR : Hid ((!(decide (k = 4) && true)) = true) := by unfold Hid; rw [decide_eq_false h4]; rfl
  rw [HR.out]
  clear HR h4
  go_enter Tryz.func177, Tryz.ntmps177
  go_upto_region 1 with fail
  try rw [hW0]
  clear hW0
  obtain ⟨a0, a1, a2, a3, a4⟩ := HA.out.cells5
  go_wp2_with fail
  go_ret
  exact ⟨rfl, HB.out⟩
def anyV (pb : RV -> Bool) (rs : List RV) : Bool := rs.any pb
theorem anyV_idx (pb : RV -> Bool) (rs : List RV) : anyV pb rs = (rs.findIdx? pb).isSome := by
 unfold anyV
 rw [List.findIdx?_isSome]
theorem indexT_any (w : World) (p : Option Addr) (n c g : Nat) (rs : List RV) (pb : RV -> Bool) (hv : Rd w w.heap.size encV 5 (.slice p n c) rs) (hlen : rs.length <= 1759218604390)
 (HP : ∀ (i : Nat) x, rs[i]? = some x -> ∀ W, Below w.heap.size w W -> Calls Tryz.prog 177 #[x.val, .pointer (some ⟨g, 0, none⟩)] W fun e w' => e = .returned (.bool (pb x)) /\ Below W.heap.size W w') :
 Calls Tryz.prog 90 #[.slice p n c, .func (.func 177) #[] #[.pointer (some ⟨g, 0, none⟩)]] w fun e w' => e = .returned (.int .i64 (placeI (rs.findIdx? pb))) /\ Below w.heap.size w w' := by
 have hn := rd_nlen hv
 subst hn
 have HV := Lib.hid hv
 have HPB := Lib.hid HP
 clear hv HP
 go_enter Tryz.func90, Tryz.ntmps90
 go_wp2_with fail
 go_loopw [8] (fun i wr => ∃ k : Nat, k <= rs.length /\ i = .int .i64 k /\ Hid (∀ (j : Nat) y, j < k -> rs[j]? = some y -> pb y = false) /\ Below w.heap.size w wr) (fun i _ => rs.length - (intOf i).toNat)
 case atStart => exact ⟨0, Nat.zero_le _, rfl, fun j y h => by omega, Below.refl _ _⟩
 case round =>
  obtain ⟨k, hk, rfl, hno, hbr⟩ := hrel
  by_cases hlt : k < rs.length
  ·obtain ⟨x, hx⟩ : ∃ x, rs[k]? = some x := ⟨_, List.getElem?_eq_getElem hlt⟩
   obtain ⟨b1, o1, rfl, hb1, hc1⟩ := rd_at' (HV.out.below hbr (Nat.le_refl _)) hx
   have f0 := hc1 0 _ rfl
   have f1 := hc1 1 _ rfl
   have f2 := hc1 2 _ rfl
   have f3 := hc1 3 _ rfl
   have f4 := hc1 4 _ rfl
   rw [Nat.add_zero] at f0
   have HX := Lib.hid hx
   have HBR := Lib.hid hbr
   have HQ : Hid (∀ W, Below w.heap.size w W -> Calls Tryz.prog 177 #[x.val, .pointer (some ⟨g, 0, none⟩)] W fun e w' => e = .returned (.bool (pb x)) /\ Below W.heap.size W w') := HPB.out k x hx
   cases hnb : pb x
   all_goals
    rw [hnb] at HQ
    have HNB := Lib.hid hnb
    have HNO := Lib.hid hno.out
    clear hx hc1 hbr hnb hno
    go_wp2_with (go_at_call 177; refine (HQ.out _ HBR.out).mono ?_; rintro e w1 ⟨rfl, hb1'⟩)
    first
     | (go_roundw
        case rel =>
         refine ⟨k + 1, by omega, by go_num, ?_, HBR.out.trans (hb1'.mono HBR.out.size)⟩
         intro j y hj hy
         by_cases e : j = k
         ·subst e
          have h2 := HX.out
          rw [hy] at h2
          cases h2
          exact HNB.out
         ·exact HNO.out j y (by omega) hy
        case measure => simp [intOf]; omega)
     | (go_ret
        have HF := find_at HX.out HNB.out HNO.out
        exact ⟨ret_int (by rw [HF]; rfl), HBR.out.trans (hb1'.mono HBR.out.size)⟩)
  ·obtain rfl : k = rs.length := by omega
   have HF := Lib.hid (find_not (p := pb) (l := rs) (fun j y hy => hno.out j y (List.getElem?_eq_some_iff.1 hy).1 hy))
   go_wp2_with fail
   go_ret
   exact ⟨ret_int (by rw [HF.out]; rfl), hbr⟩
theorem containsT_any (w : World) (p : Option Addr) (n c g : Nat) (rs : List RV) (pb : RV -> Bool) (hv : Rd w w.heap.size encV 5 (.slice p n c) rs) (hlen : rs.length <= 1759218604390)
 (HP : ∀ (i : Nat) x, rs[i]? = some x -> ∀ W, Below w.heap.size w W -> Calls Tryz.prog 177 #[x.val, .pointer (some ⟨g, 0, none⟩)] W fun e w' => e = .returned (.bool (pb x)) /\ Below W.heap.size W w') :
 Calls Tryz.prog 49 #[.slice p n c, .func (.func 177) #[] #[.pointer (some ⟨g, 0, none⟩)]] w fun e w' => e = .returned (.bool (anyV pb rs)) /\ Below w.heap.size w w' := by
 have HC := Lib.hid (indexT_any w p n c g rs pb hv hlen HP)
 have HT := Lib.hid (anyV_idx pb rs)
 clear hv HP hlen
 generalize rs.findIdx? pb = o at HC HT
 cases o with
 | none =>
   have hd : decide ((0 : Int) <= placeI none) = false := by decide
   go_enter Tryz.func49, Tryz.ntmps49
   go_wp2_with (go_at_call 90; refine HC.out.mono ?_; rintro e w1 ⟨rfl, hb1⟩)
   go_ret
   exact ⟨ret_boolI (by rw [HT.out]; rfl), hb1⟩
 | some i =>
   have hd : decide ((0 : Int) <= placeI (some i)) = true := by simp [placeI]
   go_enter Tryz.func49, Tryz.ntmps49
   go_wp2_with (go_at_call 90; refine HC.out.mono ?_; rintro e w1 ⟨rfl, hb1⟩)
   go_ret
   exact ⟨ret_boolI (by rw [HT.out]; simp), hb1⟩
theorem textsId_any (r : RV) (w : World) (rs : List RV) (hv : Rd w w.heap.size encV 5 (.slice r.pl r.nl r.cl) rs) (hlen : rs.length <= 1759218604390) (hs : ∀ (i : Nat) x, rs[i]? = some x -> x.s.size <= maxLen) :
 Calls Tryz.prog 144 #[r.val, .func (.func 15) #[] #[]] w fun e w' => e = .returned (.bool (decide (r.k = 5) && rs.all (fun x => decide (x.k = 4) && idB x.s))) /\ Below w.heap.size w w' := by
 have hB : Below w.heap.size w ((w.alloc r.obj).alloc (.cells #[.func (.func 15) #[] #[]] 49)) := ((Below.refl _ _).alloc (Nat.le_refl _) _).alloc (by simp) _
 have hA : VAt ((w.alloc r.obj).alloc (.cells #[.func (.func 15) #[] #[]] 49)) w.heap.size r := heap_alloc_lt (by simp) (heap_alloc_at rfl)
 have hF : ((w.alloc r.obj).alloc (.cells #[.func (.func 15) #[] #[]] 49)).heap[w.heap.size + 1]? = some (.cells #[.func (.func 15) #[] #[]] 49 (0, 0)) := heap_alloc_at (by simp)
 have hz : ((w.alloc r.obj).alloc (.cells #[.func (.func 15) #[] #[]] 49)).heap.size = w.heap.size + 2 := by simp
 have hall : anyV (fun x => !(decide (x.k = 4) && idB x.s)) rs = !(rs.all (fun x => decide (x.k = 4) && idB x.s)) := by unfold anyV; rw [List.not_all_eq_any_not]
 have HALL := Lib.hid hall
 dsimp only [RV.val, RV.obj] at *
 obtain ⟨W0, hW0⟩ : ∃ W, (w.alloc (.cells #[.int .i64 r.k, .int .i64 r.n, .string r.s, .slice r.pl r.nl r.cl, .slice r.pm r.nm r.cm] 31)).alloc (.cells #[.func (.func 15) #[] #[]] 49) = W := ⟨_, rfl⟩
 rw [hW0] at hB hA hF hz
 have hcf : W0.cell? ⟨w.heap.size + 1, 0, none⟩ = some (.func (.func 15) #[] #[]) := by rw [cell_of_row W0 (w.heap.size + 1) 0 _ _ _ hF]; rfl
 have HC : Hid (Calls Tryz.prog 49 #[.slice r.pl r.nl r.cl, .func (.func 177) #[] #[.pointer (some ⟨w.heap.size + 1, 0, none⟩)]] W0 fun e w' => e = .returned (.bool (anyV (fun x => !(decide (x.k = 4) && idB x.s)) rs)) /\ Below W0.heap.size W0 w') :=
  containsT_any W0 r.pl r.nl r.cl (w.heap.size + 1) rs _ (hv.below hB hB.size) hlen (fun i x hx W hb => notId_any x (w.heap.size + 1) W (bcs hb (by omega) hcf) (hs i x hx))
 rw [HALL.out] at HC
 obtain ⟨b, hb⟩ : ∃ b, rs.all (fun x => decide (x.k = 4) && idB x.s) = b := ⟨_, rfl⟩
 rw [hb] at HC
 rw [hb]
 have HB := Lib.hid hB
 have HA := Lib.hid hA
 have hmf : ∀ (fn : Fn) (first cap : Array Value) (w : World), (Instr.makeFunc fn first cap).run Tryz.prog w = .ok (.func fn first cap) w := fun _ _ _ _ => rfl
 obtain ⟨k, n, s, pl, nl, cl, pm, nm, cm⟩ := r
 dsimp only at *
 clear hB hA hF hz hall HALL hcf hv hs hlen hb
 by_cases h5 : k = 5
 ·subst h5
  cases b
  all_goals
   go_enter Tryz.func144, Tryz.ntmps144
   go_upto_region 1 with fail
   try rw [hW0]
   clear hW0
   obtain ⟨a0, a1, a2, a3, a4⟩ := HA.out.cells5
   go_wp2_with (go_at_call 49; refine HC.out.mono ?_; rintro e w1 ⟨rfl, hb1⟩)
   go_ret
   exact ⟨by simp, HB.out.trans (hb1.mono HB.out.size)⟩
 ·have hq : (k == 5) = false := by simpa using h5
  have HR : Hid ((decide (k = 5) && b) = false) := by unfold Hid; rw [decide_eq_false h5]; rfl
  rw [HR.out]
  clear HR h5
  go_enter Tryz.func144, Tryz.ntmps144
  go_upto_region 1 with fail
  try rw [hW0]
  clear hW0
  obtain ⟨a0, a1, a2, a3, a4⟩ := HA.out.cells5
  go_wp2_with fail
  go_ret
  exact ⟨rfl, HB.out⟩
theorem textsTx_any (r : RV) (w : World) (rs : List RV) (hv : Rd w w.heap.size encV 5 (.slice r.pl r.nl r.cl) rs) (hlen : rs.length <= 1759218604390) (hs : ∀ (i : Nat) x, rs[i]? = some x -> x.s.size <= maxLen) :
 Calls Tryz.prog 144 #[r.val, .func (.func 147) #[] #[]] w fun e w' => e = .returned (.bool (decide (r.k = 5) && rs.all (fun x => decide (x.k = 4) && true))) /\ Below w.heap.size w w' := by
 have hB : Below w.heap.size w ((w.alloc r.obj).alloc (.cells #[.func (.func 147) #[] #[]] 49)) := ((Below.refl _ _).alloc (Nat.le_refl _) _).alloc (by simp) _
 have hA : VAt ((w.alloc r.obj).alloc (.cells #[.func (.func 147) #[] #[]] 49)) w.heap.size r := heap_alloc_lt (by simp) (heap_alloc_at rfl)
 have hF : ((w.alloc r.obj).alloc (.cells #[.func (.func 147) #[] #[]] 49)).heap[w.heap.size + 1]? = some (.cells #[.func (.func 147) #[] #[]] 49 (0, 0)) := heap_alloc_at (by simp)
 have hz : ((w.alloc r.obj).alloc (.cells #[.func (.func 147) #[] #[]] 49)).heap.size = w.heap.size + 2 := by simp
 have hall : anyV (fun x => !(decide (x.k = 4) && true)) rs = !(rs.all (fun x => decide (x.k = 4) && true)) := by unfold anyV; rw [List.not_all_eq_any_not]
 have HALL := Lib.hid hall
 dsimp only [RV.val, RV.obj] at *
 obtain ⟨W0, hW0⟩ : ∃ W, (w.alloc (.cells #[.int .i64 r.k, .int .i64 r.n, .string r.s, .slice r.pl r.nl r.cl, .slice r.pm r.nm r.cm] 31)).alloc (.cells #[.func (.func 147) #[] #[]] 49) = W := ⟨_, rfl⟩
 rw [hW0] at hB hA hF hz
 have hcf : W0.cell? ⟨w.heap.size + 1, 0, none⟩ = some (.func (.func 147) #[] #[]) := by rw [cell_of_row W0 (w.heap.size + 1) 0 _ _ _ hF]; rfl
 have HC : Hid (Calls Tryz.prog 49 #[.slice r.pl r.nl r.cl, .func (.func 177) #[] #[.pointer (some ⟨w.heap.size + 1, 0, none⟩)]] W0 fun e w' => e = .returned (.bool (anyV (fun x => !(decide (x.k = 4) && true)) rs)) /\ Below W0.heap.size W0 w') :=
  containsT_any W0 r.pl r.nl r.cl (w.heap.size + 1) rs _ (hv.below hB hB.size) hlen (fun i x hx W hb => notTx_any x (w.heap.size + 1) W (bcs hb (by omega) hcf) (hs i x hx))
 rw [HALL.out] at HC
 obtain ⟨b, hb⟩ : ∃ b, rs.all (fun x => decide (x.k = 4) && true) = b := ⟨_, rfl⟩
 rw [hb] at HC
 rw [hb]
 have HB := Lib.hid hB
 have HA := Lib.hid hA
 have hmf : ∀ (fn : Fn) (first cap : Array Value) (w : World), (Instr.makeFunc fn first cap).run Tryz.prog w = .ok (.func fn first cap) w := fun _ _ _ _ => rfl
 obtain ⟨k, n, s, pl, nl, cl, pm, nm, cm⟩ := r
 dsimp only at *
 clear hB hA hF hz hall HALL hcf hv hs hlen hb
 by_cases h5 : k = 5
 ·subst h5
  cases b
  all_goals
   go_enter Tryz.func144, Tryz.ntmps144
   go_upto_region 1 with fail
   try rw [hW0]
   clear hW0
   obtain ⟨a0, a1, a2, a3, a4⟩ := HA.out.cells5
   go_wp2_with (go_at_call 49; refine HC.out.mono ?_; rintro e w1 ⟨rfl, hb1⟩)
   go_ret
   exact ⟨by simp, HB.out.trans (hb1.mono HB.out.size)⟩
 ·have hq : (k == 5) = false := by simpa using h5
  have HR : Hid ((decide (k = 5) && b) = false) := by unfold Hid; rw [decide_eq_false h5]; rfl
  rw [HR.out]
  clear HR h5
  go_enter Tryz.func144, Tryz.ntmps144
  go_upto_region 1 with fail
  try rw [hW0]
  clear hW0
  obtain ⟨a0, a1, a2, a3, a4⟩ := HA.out.cells5
  go_wp2_with fail
  go_ret
  exact ⟨rfl, HB.out⟩
end
end Go.Proofs.YtfgjimpmpckgpaaGreatDoor
