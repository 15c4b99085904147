import Derived.Test.YtffhccmppdgmfaaGreatDoorD01
import Derived.Test.YtffhccmppdgmfaaGreatDoorD02
import Derived.Deep.RegionHeld3
import Derived.Deep.RegionLaw
import Derived.Lib.Bytealg
set_option linter.unusedSimpArgs false
set_option linter.unusedVariables false
set_option maxRecDepth 200000
set_option maxHeartbeats 8000000
namespace Go.Proofs.YtffhccmppdgmfaaGreatDoor
section
open Go Go.RowKit Go.OpenShut
theorem ret_boolI {a b : Bool} (h : a = b) : Ending.returned (.bool a) = .returned (.bool b) := by rw [h]
def idCh (c : UInt8) : Bool := decide (97 <= c.toNat) && decide (c.toNat <= 122) || decide (65 <= c.toNat) && decide (c.toNat <= 90) || decide (48 <= c.toNat) && decide (c.toNat <= 57) || decide (c.toNat = 45) || decide (c.toNat = 95)
def idAll (s : ByteArray) : Bool := s.data.toList.all idCh
def idB (s : ByteArray) : Bool := decide (1 <= s.size) && decide (s.size <= 255) && idAll s
theorem idAll_yes {s : ByteArray} (h : ∀ j, j < s.size -> idCh s[j]! = true) : idAll s = true := by
 unfold idAll
 rw [List.all_eq_true]
 intro c hc
 obtain ⟨j, hj, e⟩ := List.getElem_of_mem hc
 have hj' : j < s.size := by rw [<- str_len]; exact hj
 have := h j hj'
 rw [get_bang s j hj'] at this
 rw [<- e]
 exact this
theorem idAll_no {s : ByteArray} {j : Nat} (hj : j < s.size) (h : idCh s[j]! = false) : idAll s = false := by
 unfold idAll
 rw [List.all_eq_false]
 refine ⟨s[j], ?_, by rw [<- get_bang s j hj, h]; simp⟩
 exact List.getElem_mem (l := s.data.toList) (by rw [str_len]; exact hj)
theorem identIs_any (s : ByteArray) (w : World) (hs : s.size <= maxLen) : Calls Tryz.prog 115 #[.string s] w fun e w' => e = .returned (.bool (idB s)) /\ w' = w := by
 unfold maxLen at hs
 by_cases h1 : s.size < 1
 ·have HR : Hid (idB s = false) := by unfold Hid idB; rw [decide_eq_false (by omega)]; rfl
  have q1 : decide ((s.size : Int) < 1) = true := by simp; omega
  have q2 : (s.size : Int) < 1 := by omega
  have q3 : s.size < 1 := h1
  rw [HR.out]
  clear HR
  go_enter Tryz.func115, Tryz.ntmps115
  go_wp2_with fail
  go_ret
  exact ⟨rfl, rfl⟩
 ·by_cases h2 : 255 < s.size
  ·have HR : Hid (idB s = false) := by unfold Hid idB; rw [decide_eq_false (p := s.size <= 255) (by omega), Bool.and_false]; rfl
   have q1 : decide ((s.size : Int) < 1) = false := by simp; omega
   have q2 : ¬ (s.size : Int) < 1 := by omega
   have q4 : decide ((255 : Int) < (s.size : Int)) = true := by simp; omega
   have q5 : (255 : Int) < (s.size : Int) := by omega
   rw [HR.out]
   clear HR
   go_enter Tryz.func115, Tryz.ntmps115
   go_wp2_with fail
   go_ret
   exact ⟨rfl, rfl⟩
  ·have HR : Hid (idB s = idAll s) := by unfold Hid idB; rw [decide_eq_true (by omega), decide_eq_true (by omega)]; rfl
   have q1 : decide ((s.size : Int) < 1) = false := by simp; omega
   have q2 : ¬ (s.size : Int) < 1 := by omega
   have q4 : decide ((255 : Int) < (s.size : Int)) = false := by simp; omega
   have q5 : ¬ (255 : Int) < (s.size : Int) := by omega
   rw [HR.out]
   clear HR
   go_enter Tryz.func115, Tryz.ntmps115
   go_wp2_with fail
   go_loop [15] (fun i => ∃ k : Nat, k <= s.size /\ i = .int .i64 (k : Int) /\ Hid (∀ j, j < k -> idCh s[j]! = true)) (fun i => s.size - (intOf i).toNat)
   case atStart => exact ⟨0, Nat.zero_le _, rfl, fun j h => by omega⟩
   case round =>
    obtain ⟨k, hk, rfl, hall⟩ := hrel
    by_cases hlt : k < s.size
    ·have k0 : (0 : Int) <= (k : Int) := Int.natCast_nonneg _
     have k1 : (k : Int) < (s.size : Int) := by omega
     have b0 : (0 : Int) <= ((s[k].toNat : Nat) : Int) := Int.natCast_nonneg _
     have hcc : Hid (idCh s[k]! = idCh s[k]) := by unfold Hid; rw [get_bang s k hlt]
     obtain ⟨c, hc⟩ : ∃ c, s[k] = c := ⟨_, rfl⟩
     rw [hc] at hcc b0
     have HC := Lib.hid hc
     by_cases a1 : 97 <= c.toNat <;> by_cases a2 : c.toNat <= 122 <;> by_cases a3 : 65 <= c.toNat <;> by_cases a4 : c.toNat <= 90 <;> by_cases a5 : 48 <= c.toNat <;> by_cases a6 : c.toNat <= 57 <;> by_cases a7 : c.toNat = 45 <;> by_cases a8 : c.toNat = 95
     all_goals first | (exfalso; omega) | skip
     all_goals
      have hp : Hid (idCh c = (decide (97 <= c.toNat) && decide (c.toNat <= 122) || decide (65 <= c.toNat) && decide (c.toNat <= 90) || decide (48 <= c.toNat) && decide (c.toNat <= 57) || decide (c.toNat = 45) || decide (c.toNat = 95))) := rfl
      first
       | (have d1 : decide ((97 : Int) <= ((c.toNat : Nat) : Int)) = true := decide_eq_true (by omega)
          have p1 : (97 : Int) <= ((c.toNat : Nat) : Int) := by omega)
       | (have d1 : decide ((97 : Int) <= ((c.toNat : Nat) : Int)) = false := decide_eq_false (by omega)
          have p1 : ¬ ((97 : Int) <= ((c.toNat : Nat) : Int)) := by omega)
      first
       | (have d2 : decide (((c.toNat : Nat) : Int) <= 122) = true := decide_eq_true (by omega)
          have p2 : ((c.toNat : Nat) : Int) <= 122 := by omega)
       | (have d2 : decide (((c.toNat : Nat) : Int) <= 122) = false := decide_eq_false (by omega)
          have p2 : ¬ (((c.toNat : Nat) : Int) <= 122) := by omega)
      first
       | (have d3 : decide ((65 : Int) <= ((c.toNat : Nat) : Int)) = true := decide_eq_true (by omega)
          have p3 : (65 : Int) <= ((c.toNat : Nat) : Int) := by omega)
       | (have d3 : decide ((65 : Int) <= ((c.toNat : Nat) : Int)) = false := decide_eq_false (by omega)
          have p3 : ¬ ((65 : Int) <= ((c.toNat : Nat) : Int)) := by omega)
      first
       | (have d4 : decide (((c.toNat : Nat) : Int) <= 90) = true := decide_eq_true (by omega)
          have p4 : ((c.toNat : Nat) : Int) <= 90 := by omega)
       | (have d4 : decide (((c.toNat : Nat) : Int) <= 90) = false := decide_eq_false (by omega)
          have p4 : ¬ (((c.toNat : Nat) : Int) <= 90) := by omega)
      first
       | (have d5 : decide ((48 : Int) <= ((c.toNat : Nat) : Int)) = true := decide_eq_true (by omega)
          have p5 : (48 : Int) <= ((c.toNat : Nat) : Int) := by omega)
       | (have d5 : decide ((48 : Int) <= ((c.toNat : Nat) : Int)) = false := decide_eq_false (by omega)
          have p5 : ¬ ((48 : Int) <= ((c.toNat : Nat) : Int)) := by omega)
      first
       | (have d6 : decide (((c.toNat : Nat) : Int) <= 57) = true := decide_eq_true (by omega)
          have p6 : ((c.toNat : Nat) : Int) <= 57 := by omega)
       | (have d6 : decide (((c.toNat : Nat) : Int) <= 57) = false := decide_eq_false (by omega)
          have p6 : ¬ (((c.toNat : Nat) : Int) <= 57) := by omega)
      first
       | (have d7 : (((c.toNat : Nat) : Int) == 45) = true := by simp; omega)
       | (have d7 : (((c.toNat : Nat) : Int) == 45) = false := by simp; omega)
      first
       | (have d8 : (((c.toNat : Nat) : Int) == 95) = true := by simp; omega)
       | (have d8 : (((c.toNat : Nat) : Int) == 95) = false := by simp; omega)
      go_wp2_with fail
      first
       | (go_round
          case rel =>
           refine ⟨k + 1, by omega, by go_num, fun j hj => ?_⟩
           by_cases e : j = k
           ·subst e; rw [hcc.out, hp.out]; simp [a1, a2, a3, a4, a5, a6, a7, a8]
           ·exact hall.out j (by omega)
          case measure => simp [intOf]; omega)
       | (go_ret
          refine ⟨ret_boolI ?_, rfl⟩
          exact (idAll_no hlt (by rw [hcc.out, hp.out]; simp [a1, a2, a3, a4, a5, a6, a7, a8])).symm)
    ·obtain rfl : k = s.size := by omega
     go_wp2_with fail
     go_ret
     exact ⟨ret_boolI (idAll_yes hall.out).symm, rfl⟩
theorem refIs_any (s : ByteArray) (w : World) (hs : s.size <= maxLen) : Calls Tryz.prog 90 #[.string s] w fun e w' => e = .returned (.bool (idB s)) /\ w' = w := by
 unfold maxLen at hs
 go_enter Tryz.func90, Tryz.ntmps90
 go_wp2_with fail
 go_loop [3] (fun i => ∃ k : Nat, k <= s.size /\ i = .int .i64 (k : Int) /\ Hid (∀ j, j < k -> idCh s[j]! = true)) (fun i => s.size - (intOf i).toNat)
 case atStart => exact ⟨0, Nat.zero_le _, rfl, fun j h => by omega⟩
 case round =>
  obtain ⟨k, hk, rfl, hall⟩ := hrel
  by_cases hlt : k < s.size
  ·have k0 : (0 : Int) <= (k : Int) := Int.natCast_nonneg _
   have k1 : (k : Int) < (s.size : Int) := by omega
   have b0 : (0 : Int) <= ((s[k].toNat : Nat) : Int) := Int.natCast_nonneg _
   have hcc : Hid (idCh s[k]! = idCh s[k]) := by unfold Hid; rw [get_bang s k hlt]
   obtain ⟨c, hc⟩ : ∃ c, s[k] = c := ⟨_, rfl⟩
   rw [hc] at hcc b0
   have HC := Lib.hid hc
   by_cases a1 : 97 <= c.toNat <;> by_cases a2 : c.toNat <= 122 <;> by_cases a3 : 65 <= c.toNat <;> by_cases a4 : c.toNat <= 90 <;> by_cases a5 : 48 <= c.toNat <;> by_cases a6 : c.toNat <= 57 <;> by_cases a7 : c.toNat = 45 <;> by_cases a8 : c.toNat = 95
   all_goals first | (exfalso; omega) | skip
   all_goals
    have hp : Hid (idCh c = (decide (97 <= c.toNat) && decide (c.toNat <= 122) || decide (65 <= c.toNat) && decide (c.toNat <= 90) || decide (48 <= c.toNat) && decide (c.toNat <= 57) || decide (c.toNat = 45) || decide (c.toNat = 95))) := rfl
    first
     | (have d1 : decide (((c.toNat : Nat) : Int) < 97) = true := decide_eq_true (by omega)
        have p1 : ((c.toNat : Nat) : Int) < 97 := by omega)
     | (have d1 : decide (((c.toNat : Nat) : Int) < 97) = false := decide_eq_false (by omega)
        have p1 : ¬ (((c.toNat : Nat) : Int) < 97) := by omega)
    first
     | (have d2 : decide ((122 : Int) < ((c.toNat : Nat) : Int)) = true := decide_eq_true (by omega)
        have p2 : (122 : Int) < ((c.toNat : Nat) : Int) := by omega)
     | (have d2 : decide ((122 : Int) < ((c.toNat : Nat) : Int)) = false := decide_eq_false (by omega)
        have p2 : ¬ ((122 : Int) < ((c.toNat : Nat) : Int)) := by omega)
    first
     | (have d3 : decide (((c.toNat : Nat) : Int) < 65) = true := decide_eq_true (by omega)
        have p3 : ((c.toNat : Nat) : Int) < 65 := by omega)
     | (have d3 : decide (((c.toNat : Nat) : Int) < 65) = false := decide_eq_false (by omega)
        have p3 : ¬ (((c.toNat : Nat) : Int) < 65) := by omega)
    first
     | (have d4 : decide ((90 : Int) < ((c.toNat : Nat) : Int)) = true := decide_eq_true (by omega)
        have p4 : (90 : Int) < ((c.toNat : Nat) : Int) := by omega)
     | (have d4 : decide ((90 : Int) < ((c.toNat : Nat) : Int)) = false := decide_eq_false (by omega)
        have p4 : ¬ ((90 : Int) < ((c.toNat : Nat) : Int)) := by omega)
    first
     | (have d5 : decide (((c.toNat : Nat) : Int) < 48) = true := decide_eq_true (by omega)
        have p5 : ((c.toNat : Nat) : Int) < 48 := by omega)
     | (have d5 : decide (((c.toNat : Nat) : Int) < 48) = false := decide_eq_false (by omega)
        have p5 : ¬ (((c.toNat : Nat) : Int) < 48) := by omega)
    first
     | (have d6 : decide ((57 : Int) < ((c.toNat : Nat) : Int)) = true := decide_eq_true (by omega)
        have p6 : (57 : Int) < ((c.toNat : Nat) : Int) := by omega)
     | (have d6 : decide ((57 : Int) < ((c.toNat : Nat) : Int)) = false := decide_eq_false (by omega)
        have p6 : ¬ ((57 : Int) < ((c.toNat : Nat) : Int)) := by omega)
    first
     | (have d7 : (((c.toNat : Nat) : Int) != 45) = true := by simp; omega)
     | (have d7 : (((c.toNat : Nat) : Int) != 45) = false := by simp; omega)
    first
     | (have d8 : (((c.toNat : Nat) : Int) != 95) = true := by simp; omega)
     | (have d8 : (((c.toNat : Nat) : Int) != 95) = false := by simp; omega)
    go_wp2_with fail
    first
     | (go_round
        case rel =>
         refine ⟨k + 1, by omega, by go_num, fun j hj => ?_⟩
         by_cases e : j = k
         ·subst e; rw [hcc.out, hp.out]; simp [a1, a2, a3, a4, a5, a6, a7, a8]
         ·exact hall.out j (by omega)
        case measure => simp [intOf]; omega)
     | (go_ret
        refine ⟨ret_boolI ?_, rfl⟩
        unfold idB
        rw [idAll_no hlt (by rw [hcc.out, hp.out]; simp [a1, a2, a3, a4, a5, a6, a7, a8]), Bool.and_false])
  ·obtain rfl : k = s.size := by omega
   have HA := Lib.hid (idAll_yes hall.out)
   by_cases h1 : 1 <= s.size <;> by_cases h2 : s.size <= 255
   all_goals first | (exfalso; omega) | skip
   all_goals
    first
     | (have d1 : decide ((1 : Int) <= (s.size : Int)) = true := decide_eq_true (by omega)
        have p1 : (1 : Int) <= (s.size : Int) := by omega)
     | (have d1 : decide ((1 : Int) <= (s.size : Int)) = false := decide_eq_false (by omega)
        have p1 : ¬ ((1 : Int) <= (s.size : Int)) := by omega)
    first
     | (have d2 : decide ((s.size : Int) <= 255) = true := decide_eq_true (by omega)
        have p2 : (s.size : Int) <= 255 := by omega)
     | (have d2 : decide ((s.size : Int) <= 255) = false := decide_eq_false (by omega)
        have p2 : ¬ ((s.size : Int) <= 255) := by omega)
    have hr : Hid (idB s = (decide (1 <= s.size) && decide (s.size <= 255))) := by unfold Hid idB; rw [HA.out, Bool.and_true]
    go_wp2_with fail
    go_ret
    refine ⟨ret_boolI ?_, rfl⟩
    rw [hr.out]
    simp [h1, h2]
end
section
open Go.RowKit Go.OpenShut
structure MemsOf (w : World) (B : Nat) (ms : List (ByteArray × JV)) (rms : List RM) : Prop where
 len : ms.length = rms.length
 name : ∀ (i : Nat) (p : ByteArray × JV) (q : RM), ms[i]? = some p -> rms[i]? = some q -> p.1 = q.name
 val : ∀ (i : Nat) (p : ByteArray × JV) (q : RM), ms[i]? = some p -> rms[i]? = some q -> TreeOf w B p.2 q.v
theorem MemsOf.under {w w' : World} {B B' : Nat} {ms : List (ByteArray × JV)} {rms : List RM} (h : MemsOf w B ms rms) (hb : Below B w w') (hB : B <= B') : MemsOf w' B' ms rms :=
 ⟨h.len, h.name, fun i p q h1 h2 => (h.val i p q h1 h2).under hb hB⟩
theorem MemsOf.nil (w : World) (B : Nat) : MemsOf w B [] [] := ⟨rfl, fun i p q h => by simp at h, fun i p q h => by simp at h⟩
theorem MemsOf.set {w : World} {B : Nat} {ms : List (ByteArray × JV)} {rms : List RM} (h : MemsOf w B ms rms) (i : Nat) {p : ByteArray × JV} {q : RM} (hn : p.1 = q.name) (ht : TreeOf w B p.2 q.v) : MemsOf w B (ms.set i p) (rms.set i q) := by
 refine ⟨by rw [List.length_set, List.length_set, h.len], fun j a b h1 h2 => ?_, fun j a b h1 h2 => ?_⟩
 ·rw [List.getElem?_set] at h1 h2
  split at h1
  ·rename_i e
   rw [if_pos e] at h2
   split at h1
   ·rw [if_pos (by rw [<- h.len]; assumption)] at h2
    cases h1; cases h2; exact hn
   ·cases h1
  ·rename_i e
   rw [if_neg e] at h2
   exact h.name j a b h1 h2
 ·rw [List.getElem?_set] at h1 h2
  split at h1
  ·rename_i e
   rw [if_pos e] at h2
   split at h1
   ·rw [if_pos (by rw [<- h.len]; assumption)] at h2
    cases h1; cases h2; exact ht
   ·cases h1
  ·rename_i e
   rw [if_neg e] at h2
   exact h.val j a b h1 h2
theorem MemsOf.snoc {w : World} {B : Nat} {ms : List (ByteArray × JV)} {rms : List RM} (h : MemsOf w B ms rms) {p : ByteArray × JV} {q : RM} (hn : p.1 = q.name) (ht : TreeOf w B p.2 q.v) : MemsOf w B (ms ++ [p]) (rms ++ [q]) := by
 have key : ∀ (j : Nat) (a : ByteArray × JV) (b : RM), (ms ++ [p])[j]? = some a -> (rms ++ [q])[j]? = some b -> (ms[j]? = some a /\ rms[j]? = some b) \/ (a = p /\ b = q) := by
  intro j a b h1 h2
  have hl := h.len
  by_cases hj : j < ms.length
  ·rw [List.getElem?_append_left hj] at h1
   rw [List.getElem?_append_left (by omega)] at h2
   exact .inl ⟨h1, h2⟩
  ·rw [List.getElem?_append_right (by omega)] at h1 h2
   have : j - ms.length = 0 := by
    have := (List.getElem?_eq_some_iff.1 h1).1
    simp at this; omega
   rw [this] at h1
   rw [<- hl, this] at h2
   simp at h1 h2
   exact .inr ⟨h1.symm, h2.symm⟩
 refine ⟨by simp [h.len], fun j a b h1 h2 => ?_, fun j a b h1 h2 => ?_⟩
 ·rcases key j a b h1 h2 with ⟨h1, h2⟩ | ⟨rfl, rfl⟩
  ·exact h.name j a b h1 h2
  ·exact hn
 ·rcases key j a b h1 h2 with ⟨h1, h2⟩ | ⟨rfl, rfl⟩
  ·exact h.val j a b h1 h2
  ·exact ht
theorem TreeOf.map {w : World} {B base : Nat} {ms : List (ByteArray × JV)} {rms : List RM} {pm : Option Addr} {nm cm : Nat} (h : Own w base 32 encM 6 (.slice pm nm cm) rms) (hm : MemsOf w B ms rms) (hB : B <= w.heap.size) :
 TreeOf w w.heap.size (.mk 6 0 ⟨#[]⟩ [] ms) ⟨6, 0, ⟨#[]⟩, none, 0, 0, pm, nm, cm⟩ :=
 TreeOf.mk (r := ⟨6, 0, ⟨#[]⟩, none, 0, 0, pm, nm, cm⟩) (rs := []) (rms := rms) (Rd.nil _ _) rfl (fun i t q h => by simp at h) (h.rd codecM) hm.len hm.name (fun i p q h1 h2 => (hm.val i p q h1 h2).mono hB)
theorem grownBy_set (W : World) (b o : Nat) (v : Value) : W.grownBy (W.setCell ⟨b, o, none⟩ v) (some b) :=
 ⟨rfl, rfl, rfl, by simp, fun k _ hk => heap_setCell_other W ⟨b, o, none⟩ k v (fun e => hk (by simp [e]))⟩
theorem grownBy_set5 (W : World) (g : Nat) (q : RV) : W.grownBy (((((W.setCell ⟨g, 0, none⟩ (.int .i64 q.k)).setCell ⟨g, 1, none⟩ (.int .i64 q.n)).setCell ⟨g, 2, none⟩ (.string q.s)).setCell ⟨g, 3, none⟩ (.slice q.pl q.nl q.cl)).setCell ⟨g, 4, none⟩ (.slice q.pm q.nm q.cm)) (some g) :=
 ((((grownBy_set W g 0 _).trans (grownBy_set _ g 1 _)).trans (grownBy_set _ g 2 _)).trans (grownBy_set _ g 3 _)).trans (grownBy_set _ g 4 _)
def KB (B : Nat) (W w : World) : Prop := Below B W w /\ ∀ b o, b < B -> w.cell? ⟨b, o, none⟩ = W.cell? ⟨b, o, none⟩
theorem KB.mk {B : Nat} {W w : World} (h : Below B W w) : KB B W w := ⟨h, fun b o hb => h.cell (p := ⟨b, o, none⟩) hb⟩
theorem KB.fin {b B : Nat} {w W w' : World} (hk : KB B W w') (h : Below b w W) (hb : b <= B) : Below b w w' := h.trans (hk.1.mono hb)
theorem KB.refl (W : World) : KB W.heap.size W W := KB.mk (Below.refl _ _)
theorem KB.step {W w w' : World} (hk : KB W.heap.size W w) (h : Below w.heap.size w w') : KB W.heap.size W w' := KB.mk (hk.1.trans (h.mono hk.1.size))
theorem KB.drew (W : World) : KB W.heap.size W W.drew := KB.mk (Below.refl _ _).drew
abbrev RV.obj (r : RV) : Obj := .cells #[.int .i64 r.k, .int .i64 r.n, .string r.s, .slice r.pl r.nl r.cl, .slice r.pm r.nm r.cm] 25
structure Ctx (b : Nat) (w0 W : World) (L : List (Nat × RV)) (T : List (JV × RV)) : Prop where
 below : Below b w0 W
 le : b <= W.heap.size
 loc : ∀ (i g : Nat) (r : RV), L[i]? = some (g, r) -> g < W.heap.size /\ VAt W g r
 tree : ∀ (i : Nat) (t : JV) (r : RV), T[i]? = some (t, r) -> TreeOf W W.heap.size t r
theorem Ctx.nil (w : World) : Ctx w.heap.size w w [] [] := ⟨Below.refl _ _, Nat.le_refl _, fun i g r h => by simp at h, fun i t r h => by simp at h⟩
section
variable {b : Nat} {w0 W w : World} {L : List (Nat × RV)} {T : List (JV × RV)} (h : Ctx b w0 W L T)
include h
theorem Ctx.go (hb : Below W.heap.size W w) : Ctx b w0 w L T :=
 ⟨h.below.trans (hb.mono h.le), Nat.le_trans h.le hb.size, fun i g r hi => ⟨Nat.lt_of_lt_of_le (h.loc i g r hi).1 hb.size, (h.loc i g r hi).2.under hb (h.loc i g r hi).1⟩, fun i t r hi => (h.tree i t r hi).under hb hb.size⟩
theorem Ctx.alloc (x : RV) : Ctx b w0 (W.alloc x.obj) ((W.heap.size, x) :: L) T := by
 have g := h.go ((Below.refl _ _).alloc (Nat.le_refl _) x.obj)
 refine ⟨g.below, g.le, fun i k r hi => ?_, g.tree⟩
 cases i with
 | zero =>
   cases hi
   exact ⟨by simp, heap_alloc_at rfl⟩
 | succ i => exact g.loc i k r hi
theorem Ctx.know {t : JV} {x : RV} (hx : TreeOf W W.heap.size t x) : Ctx b w0 W L ((t, x) :: T) := by
 refine ⟨h.below, h.le, h.loc, fun i u r hi => ?_⟩
 cases i with
 | zero => cases hi; exact hx
 | succ i => exact h.tree i u r hi
theorem Ctx.box (hk : KB W.heap.size W w) {t : JV} {x : RV} (hx : TreeOf w w.heap.size t x) : Ctx b w0 (w.alloc x.obj) ((w.heap.size, x) :: L) ((t, x) :: T) :=
 ((h.go hk.1).know hx).alloc x
theorem Ctx.lt (i : Nat) {g : Nat} {r : RV} (hi : L[i]? = some (g, r)) : g < W.heap.size := (h.loc i g r hi).1
theorem Ctx.at (i : Nat) {g : Nat} {r : RV} (hi : L[i]? = some (g, r)) : VAt W g r := (h.loc i g r hi).2
theorem Ctx.fin (hk : KB W.heap.size W w) : Below b w0 w := h.below.trans (hk.1.mono h.le)
end
end
section
def digU (b : UInt8) : Bool := decide (48 <= b.toNat) && decide (b.toNat <= 57)
def stepD (n : Int) (b : UInt8) : Int := n * 10 + ((b.toNat : Int) - 48)
def valD (l : List UInt8) : Int := l.foldl stepD 0
theorem valD_snoc (r : List UInt8) (b : UInt8) : valD (r ++ [b]) = stepD (valD r) b := by unfold valD; rw [List.foldl_append]; rfl
theorem foldD_le : ∀ (l : List UInt8) (n : Int), l.all digU = true -> 0 <= n -> n <= l.foldl stepD n
 | [], n, _, _ => Int.le_refl _
 | b :: l, n, h, h0 => by
   rw [List.all_cons, Bool.and_eq_true] at h
   have hb := h.1
   unfold digU at hb
   rw [Bool.and_eq_true, decide_eq_true_eq, decide_eq_true_eq] at hb
   have h1 : n <= stepD n b := by unfold stepD; omega
   exact Int.le_trans h1 (foldD_le l (stepD n b) h.2 (Int.le_trans h0 h1))
theorem valD_nonneg {l : List UInt8} (h : l.all digU = true) : 0 <= valD l := foldD_le l 0 h (Int.le_refl _)
def formL : List UInt8 := [48, 48, 48, 48, 45, 48, 48, 45, 48, 48, 84, 48, 48, 58, 48, 48, 58, 48, 48]
def posOk (f c : UInt8) : Bool := if f = 48 then digU c else decide (c = f)
def hdOk (l : List UInt8) : Bool := decide (19 <= l.length) && ((formL.zip l).all (fun p => posOk p.1 p.2))
def numAt (l : List UInt8) (i n : Nat) : Int := valD ((l.drop i).take n)
def tlOk (t : List UInt8) : Bool := decide (t = [90]) || (decide (3 <= t.length) && (decide (t.length <= 11) && (decide (t[0]? = some 46) && (decide (t[t.length - 1]? = some 90) && (decide (t[t.length - 2]? ≠ some 48) && ((t.drop 1).take (t.length - 2)).all digU)))))
def leapB (y : Int) : Bool := (decide (y % 4 = 0) && decide (y % 100 ≠ 0)) || decide (y % 400 = 0)
def monthF (y m : Int) : Int := if m = 4 \/ m = 6 \/ m = 9 \/ m = 11 then 30 else if m = 2 then (if leapB y then 29 else 28) else 31
def aheadF (y : Int) : Int := if y = 0 then 0 else 365 * y + (y - 1) / 4 - (y - 1) / 100 + (y - 1) / 400 + 1
def monthsF (y : Int) : Nat -> Int
 | 0 => 0
 | k + 1 => monthsF y k + monthF y (k + 1 : Nat)
def daysF (y m d : Int) : Option Int := if 0 <= y /\ y <= 9999 /\ 1 <= m /\ m <= 12 /\ 1 <= d /\ d <= monthF y m then some (aheadF y - aheadF 1970 + monthsF y (m.toNat - 1) + d - 1) else none
def secF (l : List UInt8) : Option Int :=
 if hdOk l && (tlOk (l.drop 19) && (decide (numAt l 11 2 <= 23) && (decide (numAt l 14 2 <= 59) && decide (numAt l 17 2 <= 59)))) then (daysF (numAt l 0 4) (numAt l 5 2) (numAt l 8 2)).map (fun D => ((D * 24 + numAt l 11 2) * 60 + numAt l 14 2) * 60 + numAt l 17 2) else none
def partF (l : List UInt8) : List UInt8 := ((l.drop 20).take (l.length - 21)) ++ List.replicate (10 - (l.length - 21)) 48
theorem leap_iff (y : Int) : leapB y = true ↔ (y % 4 = 0 /\ y % 100 ≠ 0) \/ y % 400 = 0 := by unfold leapB; simp
theorem leap_cases (y : Int) : monthF y 2 = 29 /\ leapB y = true \/ monthF y 2 = 28 /\ leapB y = false := by
 unfold monthF
 cases h : leapB y
 ·right; simp
 ·left; simp
theorem month_pos (y m : Int) : 28 <= monthF y m /\ monthF y m <= 31 := by
 unfold monthF
 split
 ·omega
 ·split
  ·split <;> omega
  ·omega
theorem ahead_step {y : Int} (h : 0 <= y) : aheadF (y + 1) = aheadF y + 337 + monthF y 2 := by
 have hl := leap_iff y
 rcases leap_cases y with ⟨e, hb⟩ | ⟨e, hb⟩
 ·rw [e]
  rw [hb] at hl
  have h2 := hl.1 rfl
  unfold aheadF
  rw [if_neg (by omega), show y + 1 - 1 = y by omega]
  by_cases h0 : y = 0
  ·subst h0
   rw [if_pos rfl]; decide
  ·rw [if_neg h0]
   omega
 ·rw [e]
  rw [hb] at hl
  have h2 : ¬ ((y % 4 = 0 /\ y % 100 ≠ 0) \/ y % 400 = 0) := fun h => by have := hl.2 h; cases this
  unfold aheadF
  rw [if_neg (by omega), show y + 1 - 1 = y by omega]
  by_cases h0 : y = 0
  ·subst h0
   exact absurd (.inr rfl) h2
  ·rw [if_neg h0]
   omega
theorem aheadF_bound {y : Int} (h0 : 0 <= y) (h1 : y <= 10000) : 0 <= aheadF y /\ aheadF y <= 3660000 := by
 unfold aheadF
 split <;> omega
theorem monthsF_bound (y : Int) : ∀ k : Nat, 0 <= monthsF y k /\ monthsF y k <= 31 * k
 | 0 => by simp [monthsF]
 | k + 1 => by
   have h := monthsF_bound y k
   have h2 := month_pos y ((k + 1 : Nat) : Int)
   show 0 <= monthsF y k + monthF y ((k + 1 : Nat) : Int) /\ monthsF y k + monthF y ((k + 1 : Nat) : Int) <= _
   omega
def sgnI (n : Int) : Int := if n < 0 then -1 else if 0 < n then 1 else 0
theorem foldD_lt : ∀ (a b : List UInt8) (n m : Int), a.length = b.length -> a.all digU = true -> b.all digU = true -> n < m -> a.foldl stepD n < b.foldl stepD m
 | [], [], _, _, _, _, _, h => h
 | x :: a, y :: b, n, m, hl, ha, hb, h => by
   rw [List.all_cons, Bool.and_eq_true] at ha hb
   refine foldD_lt a b _ _ (by simpa using hl) ha.2 hb.2 ?_
   have h1 := ha.1
   have h2 := hb.1
   unfold digU at h1 h2
   simp only [Bool.and_eq_true, decide_eq_true_eq] at h1 h2
   unfold stepD
   omega
theorem cmp_digs : ∀ (a b : List UInt8) (n : Int), a.length = b.length -> a.all digU = true -> b.all digU = true -> sgnI (a.foldl stepD n - b.foldl stepD n) = Go.Lib.compareBytes a b
 | [], [], n, _, _, _ => by unfold Go.Lib.compareBytes; rw [show ([] : List UInt8).foldl stepD n - ([] : List UInt8).foldl stepD n = 0 by omega]; rfl
 | x :: a, y :: b, n, hl, ha, hb => by
   rw [List.all_cons, Bool.and_eq_true] at ha hb
   have h1 := ha.1
   have h2 := hb.1
   unfold digU at h1 h2
   simp only [Bool.and_eq_true, decide_eq_true_eq] at h1 h2
   rw [List.foldl_cons, List.foldl_cons]
   have hl2 : a.length = b.length := by simpa using hl
   unfold Go.Lib.compareBytes
   by_cases h : x.toNat < y.toNat
   ·have h3 := foldD_lt a b (stepD n x) (stepD n y) hl2 ha.2 hb.2 (by unfold stepD; omega)
    rw [if_pos (UInt8.lt_iff_toNat_lt.2 h)]
    unfold sgnI
    rw [if_pos (by omega)]
   ·by_cases h4 : y.toNat < x.toNat
    ·have h3 := foldD_lt b a (stepD n y) (stepD n x) hl2.symm hb.2 ha.2 (by unfold stepD; omega)
     rw [if_neg (fun e => h (UInt8.lt_iff_toNat_lt.1 e)), if_pos (UInt8.lt_iff_toNat_lt.2 h4)]
     unfold sgnI
     rw [if_neg (by omega), if_pos (by omega)]
    ·have he : x = y := UInt8.toNat_inj.1 (by omega)
     subst he
     rw [if_neg (fun e => h (UInt8.lt_iff_toNat_lt.1 e)), if_neg (fun e => h4 (UInt8.lt_iff_toNat_lt.1 e))]
     exact cmp_digs a b (stepD n x) hl2 ha.2 hb.2
def partN (l : List UInt8) : Int := valD ((partF l).take 9)
def cmpS (a b : List UInt8) : Int :=
 match secF a, secF b with
 | none, none => Go.Lib.compareBytes a b
 | none, some _ => -1
 | some _, none => 1
 | some x, some y => if x < y then -1 else if y < x then 1 else Go.Lib.compareBytes (partF a) (partF b)
theorem partF_len {l : List UInt8} (h : l.length <= 31) : (partF l).length = 10 := by
 unfold partF
 rw [List.length_append, List.length_replicate, List.length_take, List.length_drop]
 omega
theorem tl_digs {l : List UInt8} (h : tlOk (l.drop 19) = true) : l.length <= 30 /\ 20 <= l.length /\ ((l.drop 20).take (l.length - 21)).all digU = true := by
 unfold tlOk at h
 simp only [Bool.or_eq_true, Bool.and_eq_true, decide_eq_true_eq] at h
 rcases h with h | ⟨h1, h2, h3, h4, h5, h6⟩
 ·have hl : (l.drop 19).length = 1 := by rw [h]; rfl
  rw [List.length_drop] at hl
  refine ⟨by omega, by omega, ?_⟩
  rw [show l.length - 21 = 0 by omega]
  rfl
 ·rw [List.length_drop] at h1 h2
  refine ⟨by omega, by omega, ?_⟩
  rw [List.drop_drop, List.length_drop, show 19 + 1 = 20 from rfl, show l.length - 19 - 2 = l.length - 21 by omega] at h6
  exact h6
theorem zeros_digs (k : Nat) : (List.replicate k (48 : UInt8)).all digU = true := by
 rw [List.all_eq_true]
 intro x hx
 rw [(List.mem_replicate.1 hx).2]
 decide
theorem partF_digs {l : List UInt8} (h : tlOk (l.drop 19) = true) : (partF l).all digU = true /\ (partF l).length = 10 := by
 obtain ⟨h1, h2, h3⟩ := tl_digs h
 refine ⟨?_, partF_len (by omega)⟩
 unfold partF
 rw [List.all_append, h3, zeros_digs]
 rfl
theorem partF_ten {l : List UInt8} (h : tlOk (l.drop 19) = true) : partF l = (partF l).take 9 ++ [48] := by
 obtain ⟨h1, h2, _⟩ := tl_digs h
 have hr : List.replicate (10 - (l.length - 21)) (48 : UInt8) = List.replicate (9 - (l.length - 21)) 48 ++ [48] := by
  rw [show 10 - (l.length - 21) = (9 - (l.length - 21)) + 1 by omega, List.replicate_succ']
 have hlen : ((l.drop 20).take (l.length - 21)).length = l.length - 21 := by rw [List.length_take, List.length_drop]; omega
 have e : partF l = (((l.drop 20).take (l.length - 21)) ++ List.replicate (9 - (l.length - 21)) 48) ++ [48] := by unfold partF; rw [hr, List.append_assoc]
 rw [e, List.take_left' (by rw [List.length_append, hlen, List.length_replicate]; omega)]
theorem sgn_mul {n : Int} : sgnI (n * 10) = sgnI n := by unfold sgnI; split <;> split <;> (try split) <;> (try split) <;> omega
theorem cmp_part {a b : List UInt8} (ha : tlOk (a.drop 19) = true) (hb : tlOk (b.drop 19) = true) : Go.Lib.compareBytes (partF a) (partF b) = sgnI (partN a - partN b) := by
 obtain ⟨h1, h2⟩ := partF_digs ha
 obtain ⟨h3, h4⟩ := partF_digs hb
 rw [<- cmp_digs _ _ 0 (by omega) h1 h3]
 have e1 : (partF a).foldl stepD 0 = partN a * 10 := by
  conv => lhs; rw [partF_ten ha]
  rw [List.foldl_append]
  show stepD (partN a) 48 = _
  unfold stepD
  rw [show ((48 : UInt8).toNat : Int) = 48 from rfl]
  omega
 have e2 : (partF b).foldl stepD 0 = partN b * 10 := by
  conv => lhs; rw [partF_ten hb]
  rw [List.foldl_append]
  show stepD (partN b) 48 = _
  unfold stepD
  rw [show ((48 : UInt8).toNat : Int) = 48 from rfl]
  omega
 rw [e1, e2, show partN a * 10 - partN b * 10 = (partN a - partN b) * 10 by omega, sgn_mul]
theorem secF_tl {l : List UInt8} {x : Int} (h : secF l = some x) : hdOk l = true /\ tlOk (l.drop 19) = true := by
 unfold secF at h
 split at h
 ·rename_i hc
  rw [Bool.and_eq_true, Bool.and_eq_true] at hc
  exact ⟨hc.1, hc.2.1⟩
 ·cases h
def numR (l : List UInt8) (i n : Nat) : Int := if ((l.drop i).take n).all digU then numAt l i n else -1
def sepR (l : List UInt8) : Bool := decide (20 <= l.length) && (decide (l[4]? = some 45) && (decide (l[7]? = some 45) && (decide (l[10]? = some 84) && (decide (l[13]? = some 58) && (decide (l[16]? = some 58) && decide (l[l.length - 1]? = some 90))))))
def timeR (h m n : Int) : Bool := (decide (0 <= h) && decide (h <= 23)) && ((decide (0 <= m) && decide (m <= 59)) && (decide (0 <= n) && decide (n <= 59)))
def fracR (l : List UInt8) : Bool := decide (l.length <= 20) || (decide (l[19]? = some 46) && (decide (1 <= l.length - 21) && (decide (l.length - 21 <= 9) && (decide (0 <= numR l 20 (l.length - 21)) && decide (l[l.length - 2]? ≠ some 48)))))
def secR (l : List UInt8) : Option Int :=
 if sepR l then (match daysF (numR l 0 4) (numR l 5 2) (numR l 8 2) with
  | none => none
  | some d => if timeR (numR l 11 2) (numR l 14 2) (numR l 17 2) then (if fracR l then some (d * 86400 + numR l 11 2 * 3600 + numR l 14 2 * 60 + numR l 17 2) else none) else none) else none
theorem numAt_nonneg {l : List UInt8} {i n : Nat} (h : ((l.drop i).take n).all digU = true) : 0 <= numAt l i n := valD_nonneg h
theorem numR_yes {l : List UInt8} {i n : Nat} (h : ((l.drop i).take n).all digU = true) : numR l i n = numAt l i n := by unfold numR; rw [if_pos h]
theorem numR_no {l : List UInt8} {i n : Nat} (h : ((l.drop i).take n).all digU = false) : numR l i n = -1 := by unfold numR; rw [if_neg (by rw [h]; decide)]
theorem numR_dec {l : List UInt8} {i n : Nat} : decide (0 <= numR l i n) = ((l.drop i).take n).all digU := by
 cases h : ((l.drop i).take n).all digU
 ·rw [numR_no h]; rfl
 ·rw [numR_yes h]; exact decide_eq_true (numAt_nonneg h)
theorem one_more {l : List UInt8} {k : Nat} (h : k + 1 <= l.length) : ∃ c r, l = c :: r /\ k <= r.length := by
 cases l with
 | nil => simp at h
 | cons c r => exact ⟨c, r, rfl, by simpa using h⟩
theorem nineteen {l : List UInt8} (h : 19 <= l.length) : ∃ c0 c1 c2 c3 c4 c5 c6 c7 c8 c9 c10 c11 c12 c13 c14 c15 c16 c17 c18 t, l = c0 :: c1 :: c2 :: c3 :: c4 :: c5 :: c6 :: c7 :: c8 :: c9 :: c10 :: c11 :: c12 :: c13 :: c14 :: c15 :: c16 :: c17 :: c18 :: t := by
 obtain ⟨c0, l1, rfl, h1⟩ := one_more (k := 18) h
 obtain ⟨c1, l2, rfl, h2⟩ := one_more (k := 17) h1
 obtain ⟨c2, l3, rfl, h3⟩ := one_more (k := 16) h2
 obtain ⟨c3, l4, rfl, h4⟩ := one_more (k := 15) h3
 obtain ⟨c4, l5, rfl, h5⟩ := one_more (k := 14) h4
 obtain ⟨c5, l6, rfl, h6⟩ := one_more (k := 13) h5
 obtain ⟨c6, l7, rfl, h7⟩ := one_more (k := 12) h6
 obtain ⟨c7, l8, rfl, h8⟩ := one_more (k := 11) h7
 obtain ⟨c8, l9, rfl, h9⟩ := one_more (k := 10) h8
 obtain ⟨c9, l10, rfl, h10⟩ := one_more (k := 9) h9
 obtain ⟨c10, l11, rfl, h11⟩ := one_more (k := 8) h10
 obtain ⟨c11, l12, rfl, h12⟩ := one_more (k := 7) h11
 obtain ⟨c12, l13, rfl, h13⟩ := one_more (k := 6) h12
 obtain ⟨c13, l14, rfl, h14⟩ := one_more (k := 5) h13
 obtain ⟨c14, l15, rfl, h15⟩ := one_more (k := 4) h14
 obtain ⟨c15, l16, rfl, h16⟩ := one_more (k := 3) h15
 obtain ⟨c16, l17, rfl, h17⟩ := one_more (k := 2) h16
 obtain ⟨c17, l18, rfl, h18⟩ := one_more (k := 1) h17
 obtain ⟨c18, l19, rfl, h19⟩ := one_more (k := 0) h18
 exact ⟨_, _, _, _, _, _, _, _, _, _, _, _, _, _, _, _, _, _, _, _, rfl⟩
theorem hdOk_parts {l : List UInt8} (h : 19 <= l.length) : hdOk l = ((decide (l[4]? = some 45) && (decide (l[7]? = some 45) && (decide (l[10]? = some 84) && (decide (l[13]? = some 58) && decide (l[16]? = some 58))))) &&
 ((((l.drop 0).take 4).all digU && (((l.drop 5).take 2).all digU && ((l.drop 8).take 2).all digU)) && (((l.drop 11).take 2).all digU && (((l.drop 14).take 2).all digU && ((l.drop 17).take 2).all digU)))) := by
 obtain ⟨c0, c1, c2, c3, c4, c5, c6, c7, c8, c9, c10, c11, c12, c13, c14, c15, c16, c17, c18, t, rfl⟩ := nineteen h
 unfold hdOk
 rw [decide_eq_true h, Bool.true_and]
 have e : ((formL.zip (c0 :: c1 :: c2 :: c3 :: c4 :: c5 :: c6 :: c7 :: c8 :: c9 :: c10 :: c11 :: c12 :: c13 :: c14 :: c15 :: c16 :: c17 :: c18 :: t)).all (fun p => posOk p.1 p.2)) = (digU c0 && (digU c1 && (digU c2 && (digU c3 && (decide (c4 = 45) && (digU c5 && (digU c6 && (decide (c7 = 45) && (digU c8 && (digU c9 && (decide (c10 = 84) && (digU c11 && (digU c12 && (decide (c13 = 58) && (digU c14 && (digU c15 && (decide (c16 = 58) && (digU c17 && (digU c18 && true))))))))))))))))))) := rfl
 rw [e]
 simp only [List.getElem?_cons_succ, List.getElem?_cons_zero, Option.some.injEq, List.drop_succ_cons, List.drop_zero, List.take_succ_cons, List.take_zero, List.all_cons, List.all_nil, Bool.and_true]
 generalize digU c0 = d0; generalize digU c1 = d1; generalize digU c2 = d2; generalize digU c3 = d3; generalize digU c5 = d5; generalize digU c6 = d6; generalize digU c8 = d8; generalize digU c9 = d9; generalize digU c11 = d11; generalize digU c12 = d12; generalize digU c14 = d14; generalize digU c15 = d15; generalize digU c17 = d17; generalize digU c18 = d18
 generalize decide (c4 = 45) = s4; generalize decide (c7 = 45) = s7; generalize decide (c10 = 84) = s10; generalize decide (c13 = 58) = s13; generalize decide (c16 = 58) = s16
 rw [Bool.eq_iff_iff]
 simp only [Bool.and_eq_true]
 constructor
 ·rintro ⟨h0, h1, h2, h3, h4, h5, h6, h7, h8, h9, h10, h11, h12, h13, h14, h15, h16, h17, h18⟩
  exact ⟨⟨h4, h7, h10, h13, h16⟩, ⟨⟨h0, h1, h2, h3⟩, ⟨h5, h6⟩, h8, h9⟩, ⟨h11, h12⟩, ⟨h14, h15⟩, h17, h18⟩
 ·rintro ⟨⟨h4, h7, h10, h13, h16⟩, ⟨⟨h0, h1, h2, h3⟩, ⟨h5, h6⟩, h8, h9⟩, ⟨h11, h12⟩, ⟨h14, h15⟩, h17, h18⟩
  exact ⟨h0, h1, h2, h3, h4, h5, h6, h7, h8, h9, h10, h11, h12, h13, h14, h15, h16, h17, h18⟩
theorem tl_parts {l : List UInt8} (h : 20 <= l.length) : tlOk (l.drop 19) = (decide (l[l.length - 1]? = some 90) && fracR l) := by
 have hlen : (l.drop 19).length = l.length - 19 := List.length_drop
 have hl : (l.drop 19)[(l.drop 19).length - 1]? = l[l.length - 1]? := by rw [List.getElem?_drop, hlen]; congr 1; omega
 have hl2 : 21 <= l.length -> (l.drop 19)[l.length - 19 - 2]? = l[l.length - 2]? := fun _ => by rw [List.getElem?_drop]; congr 1; omega
 have h0 : (l.drop 19)[0]? = l[19]? := by rw [List.getElem?_drop]
 have hd : ((l.drop 19).drop 1).take ((l.drop 19).length - 2) = (l.drop 20).take (l.length - 21) := by rw [List.drop_drop, hlen]; congr 1
 unfold tlOk fracR
 rw [numR_dec, hl, h0, hd, hlen]
 by_cases h1 : l.length = 20
 ·have hz : decide (l.drop 19 = [90]) = decide (l[l.length - 1]? = some 90) := by
   obtain ⟨x, hx⟩ : ∃ x, l.drop 19 = [x] := by
    match hdr : l.drop 19, hlen with
    | [x], _ => exact ⟨x, rfl⟩
    | [], h2 => rw [h1] at h2; cases h2
    | _ :: _ :: _, h2 => rw [h1] at h2; simp at h2
   have h2 : l[l.length - 1]? = some x := by
    rw [<- hl, hlen, h1, hx]; rfl
   rw [hx, h2]
   simp
  rw [hz, decide_eq_false (p := 3 <= l.length - 19) (by omega), decide_eq_true (p := l.length <= 20) (by omega)]
  simp
 ·have hz : decide (l.drop 19 = [90]) = false := decide_eq_false (fun e => by rw [e] at hlen; simp at hlen; omega)
  rw [hz, decide_eq_false (p := l.length <= 20) (by omega), hl2 (by omega), Bool.false_or, Bool.false_or]
  have e1 : decide (3 <= l.length - 19) = decide (1 <= l.length - 21) := decide_eq_decide.2 (by omega)
  have e2 : decide (l.length - 19 <= 11) = decide (l.length - 21 <= 9) := decide_eq_decide.2 (by omega)
  rw [e1, e2]
  generalize decide (1 <= l.length - 21) = a; generalize decide (l.length - 21 <= 9) = b; generalize decide (l[19]? = some 46) = c; generalize decide (l[l.length - 1]? = some 90) = d; generalize decide (l[l.length - 2]? ≠ some 48) = e; generalize ((l.drop 20).take (l.length - 21)).all digU = f
  cases a <;> cases b <;> cases c <;> cases d <;> cases e <;> cases f <;> rfl
theorem daysF_neg {y m d : Int} (h : y = -1 \/ m = -1 \/ d = -1) : daysF y m d = none := by unfold daysF; rw [if_neg (by omega)]
theorem secR_eq (l : List UInt8) : secR l = secF l := by
 by_cases h20 : 20 <= l.length
 ·have hh := hdOk_parts (l := l) (by omega)
  have ht := tl_parts h20
  unfold secF secR
  rw [hh, ht]
  unfold sepR
  rw [decide_eq_true h20, Bool.true_and]
  cases hs4 : decide (l[4]? = some 45) <;> (try rfl)
  cases hs7 : decide (l[7]? = some 45) <;> (try rfl)
  cases hs10 : decide (l[10]? = some 84) <;> (try rfl)
  cases hs13 : decide (l[13]? = some 58) <;> (try rfl)
  cases hs16 : decide (l[16]? = some 58) <;> (try rfl)
  cases hz : decide (l[l.length - 1]? = some 90)
  ·simp
  ·simp only [Bool.true_and, if_true]
   cases hy : ((l.drop 0).take 4).all digU
   ·rw [numR_no hy, daysF_neg (.inl rfl)]; rfl
   cases hm : ((l.drop 5).take 2).all digU
   ·rw [numR_no hm, daysF_neg (.inr (.inl rfl))]; rfl
   cases hd : ((l.drop 8).take 2).all digU
   ·rw [numR_no hd, daysF_neg (.inr (.inr rfl))]; rfl
   rw [numR_yes hy, numR_yes hm, numR_yes hd]
   unfold timeR
   rw [numR_dec, numR_dec, numR_dec]
   cases hh' : ((l.drop 11).take 2).all digU
   ·cases daysF (numAt l 0 4) (numAt l 5 2) (numAt l 8 2) <;> rfl
   cases hi : ((l.drop 14).take 2).all digU
   ·rw [numR_yes hh']
    cases daysF (numAt l 0 4) (numAt l 5 2) (numAt l 8 2) <;> simp
   cases hn : ((l.drop 17).take 2).all digU
   ·rw [numR_yes hh', numR_yes hi]
    cases daysF (numAt l 0 4) (numAt l 5 2) (numAt l 8 2) <;> simp
   rw [numR_yes hh', numR_yes hi, numR_yes hn]
   simp only [Bool.true_and]
   cases hf : fracR l
   ·simp only [Bool.false_and, if_neg, Bool.false_eq_true, if_false]
    cases daysF (numAt l 0 4) (numAt l 5 2) (numAt l 8 2) <;> simp
   ·simp only [Bool.true_and]
    cases hdd : daysF (numAt l 0 4) (numAt l 5 2) (numAt l 8 2) with
    | none => simp
    | some D =>
      dsimp only
      by_cases hc : (decide (numAt l 11 2 <= 23) && (decide (numAt l 14 2 <= 59) && decide (numAt l 17 2 <= 59))) = true
      ·rw [if_pos hc, if_pos hc, if_true, Option.map_some]
       congr 1
       omega
      ·rw [if_neg hc, if_neg hc]
 ·have h1 : secR l = none := by unfold secR sepR; rw [decide_eq_false h20]; rfl
  have h2 : secF l = none := by
   cases h : secF l with
   | none => rfl
   | some x =>
     obtain ⟨_, ht⟩ := secF_tl h
     have := (tl_digs ht).2.1
     exact absurd this h20
  rw [h1, h2]
def hdStep (p : Nat × List Int) (x : UInt8 × UInt8) : Nat × List Int := if x.1 = 48 then (p.1, p.2.set p.1 (stepD (p.2.getD p.1 0) x.2)) else (p.1 + 1, p.2)
def hdFold (l : List UInt8) (i : Nat) : Nat × List Int := ((formL.zip l).take i).foldl hdStep (0, [0, 0, 0, 0, 0, 0])
def atN (i : Nat) : Nat := ((formL.take i).filter (fun c => decide (c ≠ 48))).length
theorem hdFold_succ {l : List UInt8} {i : Nat} {f c : UInt8} (hf : formL[i]? = some f) (hc : l[i]? = some c) : hdFold l (i + 1) = hdStep (hdFold l i) (f, c) := by
 unfold hdFold
 have hz : (formL.zip l)[i]? = some (f, c) := by rw [List.getElem?_zip_eq_some]; exact ⟨hf, hc⟩
 rw [List.take_add_one, hz, Option.toList_some, List.foldl_append]
 rfl
theorem atN_succ {i : Nat} {f : UInt8} (hf : formL[i]? = some f) : atN (i + 1) = atN i + if f = 48 then 0 else 1 := by
 unfold atN
 rw [List.take_add_one, hf, Option.toList_some, List.filter_append, List.length_append]
 by_cases h : f = 48
 ·simp [h]
 ·simp [h]
theorem atN_lt : ∀ i : Fin 19, atN i.1 <= 5 /\ i.1 - atN i.1 <= 13 /\ atN i.1 <= i.1 := by decide
theorem form_get : ∀ i : Fin 19, ∃ f, formL[i.1]? = some f := fun i => ⟨_, List.getElem?_eq_getElem (show i.1 < formL.length from i.2)⟩
structure HdI (l : List UInt8) (i : Nat) : Prop where
 at' : (hdFold l i).1 = atN i
 len : (hdFold l i).2.length = 6
 low : ∀ x ∈ (hdFold l i).2, 0 <= x /\ x < 10 ^ (i - atN i)
 ok : ((formL.zip l).take i).all (fun p => posOk p.1 p.2) = true
theorem HdI.start (l : List UInt8) : HdI l 0 := ⟨rfl, rfl, fun x hx => by
 have : x ∈ [0, 0, 0, 0, 0, (0 : Int)] := hx
 simp at this
 subst this
 exact ⟨by decide, by decide⟩, rfl⟩
theorem HdI.step {l : List UInt8} {i : Nat} {f c : UInt8} (h : HdI l i) (hi : i < 19) (hf : formL[i]? = some f) (hc : l[i]? = some c) (hp : posOk f c = true) : HdI l (i + 1) := by
 have hs := hdFold_succ hf hc
 have ha := atN_succ hf
 obtain ⟨a1, a2, a3⟩ := atN_lt ⟨i, hi⟩
 dsimp only at a1 a2 a3
 have hok : ((formL.zip l).take (i + 1)).all (fun p => posOk p.1 p.2) = true := by
  have hz : (formL.zip l)[i]? = some (f, c) := by rw [List.getElem?_zip_eq_some]; exact ⟨hf, hc⟩
  rw [List.take_add_one, hz, Option.toList_some, List.all_append, h.ok]
  simp [hp]
 by_cases h48 : f = 48
 ·subst h48
  rw [if_pos rfl] at ha
  unfold hdStep at hs
  rw [if_pos rfl] at hs
  have hd : digU c = true := hp
  unfold digU at hd
  simp only [Bool.and_eq_true, decide_eq_true_eq] at hd
  refine ⟨by rw [hs, ha, Nat.add_zero]; exact h.at', by rw [hs]; simp [h.len], fun x hx => ?_, hok⟩
  rw [hs] at hx
  dsimp only at hx
  have hpow : (10 : Int) ^ (i + 1 - atN (i + 1)) = 10 ^ (i - atN i) * 10 := by rw [ha, show i + 1 - (atN i + 0) = (i - atN i) + 1 by omega, Int.pow_succ]
  rw [hpow]
  rcases List.mem_or_eq_of_mem_set hx with hm | rfl
  ·have := h.low x hm
   omega
  ·have hgm : (hdFold l i).2.getD (hdFold l i).1 0 ∈ (hdFold l i).2 := by
    rw [List.getD_eq_getElem?_getD, List.getElem?_eq_getElem (by rw [h.at', h.len]; omega)]
    exact List.getElem_mem _
   have := h.low _ hgm
   unfold stepD
   omega
 ·rw [if_neg h48] at ha
  unfold hdStep at hs
  rw [if_neg h48] at hs
  refine ⟨by rw [hs, ha, <- h.at'], by rw [hs]; exact h.len, fun x hx => ?_, hok⟩
  rw [hs] at hx
  have := h.low x hx
  rw [ha, show i + 1 - (atN i + 1) = i - atN i by omega]
  exact this
theorem HdI.bound {l : List UInt8} {i : Nat} (h : HdI l i) (hi : i < 19) : 0 <= (hdFold l i).2.getD (atN i) 0 /\ (hdFold l i).2.getD (atN i) 0 < 10000000000000 := by
 obtain ⟨a1, a2, a3⟩ := atN_lt ⟨i, hi⟩
 dsimp only at a1 a2 a3
 have hgm : (hdFold l i).2.getD (atN i) 0 ∈ (hdFold l i).2 := by
  rw [List.getD_eq_getElem?_getD, List.getElem?_eq_getElem (by rw [h.len]; omega)]
  exact List.getElem_mem _
 have := h.low _ hgm
 have h13 : (10 : Int) ^ (i - atN i) <= 10 ^ 13 := by
  have : ∀ k : Nat, k <= 13 -> (10 : Int) ^ k <= 10 ^ 13 := by
   intro k hk
   have h1 : (10 : Nat) ^ k <= 10 ^ 13 := Nat.pow_le_pow_right (by decide) hk
   have h2 : ((10 ^ k : Nat) : Int) <= ((10 ^ 13 : Nat) : Int) := by omega
   simpa using h2
  exact this _ a2
 have h14 : (10 : Int) ^ 13 = 10000000000000 := by decide
 omega
theorem hdFold_end {l : List UInt8} (h : 19 <= l.length) : (hdFold l 19).2 = [numAt l 0 4, numAt l 5 2, numAt l 8 2, numAt l 11 2, numAt l 14 2, numAt l 17 2] := by
 obtain ⟨c0, c1, c2, c3, c4, c5, c6, c7, c8, c9, c10, c11, c12, c13, c14, c15, c16, c17, c18, t, rfl⟩ := nineteen h
 rfl
theorem HdI.fin {l : List UInt8} (h : HdI l 19) (hl : 19 <= l.length) : hdOk l = true := by
 unfold hdOk
 rw [decide_eq_true hl, Bool.true_and]
 have h1 := h.ok
 rw [List.take_of_length_le (by rw [List.length_zip]; show min 19 _ <= 19; omega)] at h1
 exact h1
theorem hd_no {l : List UInt8} {i : Nat} {f c : UInt8} (hf : formL[i]? = some f) (hc : l[i]? = some c) (hp : posOk f c = false) : hdOk l = false := by
 unfold hdOk
 rw [Bool.and_eq_false_iff]
 right
 have hz : (formL.zip l)[i]? = some (f, c) := by rw [List.getElem?_zip_eq_some]; exact ⟨hf, hc⟩
 rw [List.all_eq_false]
 exact ⟨(f, c), List.mem_of_getElem? hz, by rw [hp]; decide⟩
theorem hd_short {l : List UInt8} (h : l.length < 19) : hdOk l = false := by
 unfold hdOk
 rw [decide_eq_false (by omega)]
 rfl
end
end Go.Proofs.YtffhccmppdgmfaaGreatDoor
