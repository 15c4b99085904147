import Derived.Test.YtffhccmppdgmfaaGreatDoorB14
import Derived.Test.YtffhccmppdgmfaaGreatDoorB15
import Derived.Test.YtffhccmppdgmfaaGreatDoorB21
import Derived.WalkLawsBesides
import Derived.BigQuiet
set_option linter.unusedSimpArgs false
set_option linter.unusedVariables false
set_option maxRecDepth 200000
set_option maxHeartbeats 8000000
namespace Go.Proofs.YtffhccmppdgmfaaGreatDoor
section
open Go.RowKit Go.OpenShut
structure Pa where
 id : ByteArray
 was : Bool
 isb : Bool
 last : Int
deriving DecidableEq
def encP (p : Pa) : List Value := [.string p.id, .bool p.was, .bool p.isb, .int .i64 p.last]
theorem codecP : Codec encP 4 := ⟨fun _ => rfl, fun x u hu => by
 simp only [encP, List.mem_cons, List.not_mem_nil, or_false] at hu
 rcases hu with rfl | rfl | rfl | rfl <;> rfl, by decide⟩
def Pa.eqv (a b : Pa) : Bool := a.id.toList == b.id.toList && a.was == b.was && a.isb == b.isb && a.last == b.last
theorem Pa.eqv_eq (a b : Pa) : a.eqv b = decide (a = b) := by
 obtain ⟨i, x, y, s⟩ := a
 obtain ⟨j, x', y', t⟩ := b
 unfold Pa.eqv
 rw [toList_beq]
 by_cases h1 : i = j <;> by_cases h2 : x = x' <;> by_cases h3 : y = y' <;> by_cases h4 : s = t <;> simp [h1, h2, h3, h4]
theorem rd_at {α : Type} {enc : α -> List Value} {sz n cap k B : Nat} {w : World} {p : Option Addr} {xs : List α} (h : Rd w B enc sz (.slice p n cap) xs) {x : α} (hx : xs[k]? = some x) :
 ∃ b o, p = some ⟨b, o, none⟩ /\ b < B /\ ∀ j u, (enc x)[j]? = some u -> w.cell? ⟨b, o + k * sz + j, none⟩ = some u := by
 obtain ⟨p', cap', he, h1, h2, h3, h4⟩ := h
 simp only [Value.slice.injEq] at he
 obtain ⟨rfl, rfl, rfl⟩ := he
 have hk := (List.getElem?_eq_some_iff.1 hx).1
 cases p with
 | none => have := h3 rfl; omega
 | some a =>
   obtain ⟨b, o, rfl, hb, hr⟩ := h4 a rfl (by omega)
   exact ⟨b, o, rfl, hb, hr k x hx⟩
theorem rd_len {α : Type} {enc : α -> List Value} {sz B : Nat} {w : World} {v : Value} {xs : List α} (h : Rd w B enc sz v xs) : ∃ p cap, v = .slice p xs.length cap /\ xs.length <= cap /\ cap <= 9223372036854775807 := by
 obtain ⟨p, cap, he, h1, h2, _⟩ := h
 exact ⟨p, cap, he, h1, h2⟩
theorem eqTake_snoc {α : Type} [DecidableEq α] {l m : List α} {k : Nat} {x : α} (hx : l[k]? = some x) (hy : m[k]? = some x) (h : l.take k = m.take k) : l.take (k + 1) = m.take (k + 1) := by
 rw [List.take_add_one, List.take_add_one, hx, hy, h]
theorem eqTake_ne {α : Type} [DecidableEq α] {l m : List α} {k : Nat} {x y : α} (hx : l[k]? = some x) (hy : m[k]? = some y) (h : x ≠ y) : decide (l = m) = false := by
 rw [decide_eq_false_iff_not]
 rintro rfl
 rw [hx] at hy
 exact h (by simpa using hy)
def clampI (n hi : Int) : Int := if n < 0 then 0 else if hi < n then hi else n
theorem clamp_eq {n hi : Int} (h : 0 <= hi := by decide) : min (max n 0) hi = clampI n hi := by unfold clampI; split <;> (try split) <;> omega
def newB (start keep : Int) : BoxD := ⟨[], [], clampI start 9007199254740991, clampI start 9007199254740991, clampI keep 1000⟩
def newR (start keep : Int) : RB := ⟨none, 0, 0, none, 0, 0, clampI start 9007199254740991, clampI start 9007199254740991, clampI keep 1000⟩
theorem newB_of (w : World) (B : Nat) (start keep : Int) : BoxOf w B (newB start keep) (newR start keep) := ⟨ObjsOf.nil _ _, RdE.nil _ _, rfl, rfl, rfl⟩
def NewRetB (w : World) (start keep : Int) (e : Ending) (w' : World) : Prop := e = .returned (RB.val (newR start keep)) /\ Below w.heap.size w w'
theorem ret_new {a b c d : Int} (h1 : a = b) (h2 : c = d) : Ending.returned (RB.val ⟨none, 0, 0, none, 0, 0, a, a, c⟩) = .returned (RB.val ⟨none, 0, 0, none, 0, 0, b, b, d⟩) := by rw [h1, h2]
theorem sameParts_any (w : World) (B : Nat) (u v : Value) (l m : List ByteArray) (hu : Rd w B encS 1 u l) (hv : Rd w B encS 1 v m) :
 Calls Tryz.prog 25 #[u, v] w fun e w' => e = .returned (.bool (decide (l = m))) /\ ∃ n, w' = w.drewN n := by
 obtain ⟨p, c, rfl, hlc, hcm⟩ := rd_len hu
 obtain ⟨q, d, rfl, hmd, hdm⟩ := rd_len hv
 have HU := Lib.hid hu
 have HV := Lib.hid hv
 clear hu hv
 by_cases hlen : l.length = m.length
 ·have hb : ((l.length : Int) != (m.length : Int)) = false := by simp [hlen]
  have HL := Lib.hid hlen
  have hle : l.length <= m.length := by omega
  have hle2 : m.length <= l.length := by omega
  clear hlen
  go_enter Tryz.func25, Tryz.ntmps25
  go_wp2_with fail
  go_loopw [5] (fun i wr => ∃ k : Nat, k <= l.length /\ i = .int .i64 k /\ Hid (l.take k = m.take k) /\ ∃ n, wr = w.drewN n) (fun i _ => l.length - (intOf i).toNat)
  case atStart => exact ⟨0, Nat.zero_le _, rfl, rfl, 0, rfl⟩
  case round =>
   obtain ⟨k, hk, rfl, htk, nr, rfl⟩ := hrel
   by_cases hlt : k < l.length
   ·obtain ⟨x, hx⟩ : ∃ x, l[k]? = some x := ⟨_, List.getElem?_eq_getElem hlt⟩
    obtain ⟨y, hy⟩ : ∃ x, m[k]? = some x := ⟨_, List.getElem?_eq_getElem (by omega)⟩
    obtain ⟨b1, o1, rfl, hb1, hc1⟩ := rd_at HU.out hx
    obtain ⟨b2, o2, rfl, hb2, hc2⟩ := rd_at HV.out hy
    have f0 := hc1 0 _ rfl
    have g0 := hc2 0 _ rfl
    rw [Nat.add_zero, Nat.mul_one] at f0 g0
    have hk0 : (0 : Int) <= (k : Int) := Int.natCast_nonneg _
    have hk1 : (k : Int) < (l.length : Int) := by omega
    have hk2 : (k : Int) < (m.length : Int) := by omega
    have hq := str_beq x y
    by_cases hxy : x = y
    ·have e2 : (x.toList == y.toList) = true := by rw [hq]; simpa using hxy
     have e1 : (x.toList != y.toList) = false := by rw [bne, e2]; rfl
     have HTK : Hid (l.take (k + 1) = m.take (k + 1)) := by
      unfold Hid
      rw [List.take_add_one, List.take_add_one, hx, hy, htk.out, hxy]
     clear hx hy hc1 hc2 hq hxy htk
     go_wp2_with fail
     go_quiet (fail)
     go_wp2_with fail
     go_roundw
     case rel => exact ⟨k + 1, by omega, by go_num, HTK, _, rfl⟩
     case measure => simp [intOf]; omega
    ·have e2 : (x.toList == y.toList) = false := by rw [hq]; simpa using hxy
     have e1 : (x.toList != y.toList) = true := by rw [bne, e2]; rfl
     have HNO : Hid (decide (l = m) = false) := eqTake_ne hx hy hxy
     clear hx hy hc1 hc2 hq hxy htk
     go_wp2_with fail
     go_quiet (fail)
     go_wp2_with fail
     go_ret
     exact ⟨ret_bool HNO.out.symm, _, World.drewN_drewN _ _ _⟩
   ·obtain rfl : k = l.length := by omega
    have HYES : Hid (decide (l = m) = true) := by
     have h := htk.out
     rw [List.take_of_length_le (Nat.le_refl _), List.take_of_length_le hle2] at h
     unfold Hid
     simpa using h
    go_wp2_with fail
    go_ret
    exact ⟨ret_bool HYES.out.symm, _, rfl⟩
 ·have hb : ((l.length : Int) != (m.length : Int)) = true := by simp; omega
  have HNO : Hid (decide (l = m) = false) := by unfold Hid; rw [decide_eq_false_iff_not]; exact fun h => hlen (by rw [h])
  clear hlen
  go_enter Tryz.func25, Tryz.ntmps25
  go_wp2_with fail
  go_ret
  exact ⟨ret_bool HNO.out.symm, 0, rfl⟩
end
end Go.Proofs.YtffhccmppdgmfaaGreatDoor
