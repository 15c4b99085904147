import Derived.Test.YtfpgkiajggfadaaProg
import Derived.WalkKit
import Derived.WalkSpells
import Derived.WalkLawsBesides
import Derived.BigQuiet
import Derived.Deep.QuietTactic
import Derived.Lib.Hide
set_option linter.unusedSimpArgs false
set_option linter.unusedVariables false
namespace Go.Proofs.Ytfpgkiajggfadaa
open Go.RowKit

theorem ret_bool {a b : Bool} (h : a = b) : Ending.returned (.bool a) = .returned (.bool b) := by rw [h]

/-- May something become of an object behind something else? -/
def mayB (was what : Int) : Bool := if what = 1 then was == 0 else if what = 2 ∨ what = 3 then was != 3 else false

set_option maxHeartbeats 400000 in
theorem may_any (was what : Int) (w : World) :
    Calls Try.prog 35 #[.int .i64 was, .int .i64 what] w fun e w' => e = .returned (.bool (mayB was what)) ∧ w = w' := by
  go_enter Try.func35, Try.ntmps35
  go_wp2
  all_goals (go_ret; refine ⟨ret_bool ?_, rfl⟩; simp_all [mayB])

/-- An entry of a trail. -/
structure En where
  seq : Int
  id : ByteArray
  what : Int
deriving DecidableEq

/-- Its numbers fit, its text has a length that may be. -/
def En.ok (e : En) : Prop := (Lit.int .i64 e.seq).wf = true ∧ e.id.size ≤ maxLen ∧ (Lit.int .i64 e.what).wf = true

theorem toList_beq (a b : ByteArray) : (a.toList == b.toList) = decide (a = b) := by
  rw [ByteArray.toList_eq, ByteArray.toList_eq]
  obtain ⟨⟨x⟩⟩ := a
  obtain ⟨⟨y⟩⟩ := b
  by_cases h : x = y
  · simp [h]
  · simp [h]

def En.eqv (a b : En) : Bool := a.seq == b.seq && a.id.toList == b.id.toList && a.what == b.what

/-- An entry, as it lies in three cells. -/
def enAt (w : World) (b o : Nat) (e : Option En) : Prop := ∃ x, e = some x ∧ w.cell? ⟨b, o, none⟩ = some (.int .i64 x.seq) ∧ w.cell? ⟨b, o + 1, none⟩ = some (.string x.id) ∧ w.cell? ⟨b, o + 2, none⟩ = some (.int .i64 x.what)

/-- A slice of entries, as it lies in memory below block B. -/
def RdE (w : World) (B : Nat) (v : Value) (es : List En) : Prop :=
  (∀ e ∈ es, e.ok) ∧ ∃ (p : Option Addr) (cap : Nat), v = .slice p es.length cap ∧ es.length ≤ cap ∧ cap ≤ maxLen ∧ (p = none → cap = 0) ∧
    ∀ a, p = some a → ∃ b o, a = ⟨b, o, none⟩ ∧ b < B ∧ ∀ i, i < es.length → enAt w b (o + i * 3) es[i]?

def sameE : List En → List En → Bool
  | [], [] => true
  | a :: l, b :: m => a.eqv b && sameE l m
  | _, _ => false

theorem slice_at {p : Option Addr} {cap n k B : Nat} {C : Nat → Nat → Nat → Prop} (h0 : p = none → cap = 0)
    (h : ∀ a, p = some a → ∃ b o, a = ⟨b, o, none⟩ ∧ b < B ∧ ∀ i, i < n → C b o i) (hk : k < cap) : ∃ b o, p = some ⟨b, o, none⟩ ∧ b < B ∧ ∀ i, i < n → C b o i := by
  cases p with
  | none => have := h0 rfl; omega
  | some a => obtain ⟨b, o, rfl, hb, hc⟩ := h a rfl; exact ⟨b, o, rfl, hb, hc⟩

theorem guardE : Try.prog.eqGuardType Try.prog.depth 26 = false := by kernel_rfl
theorem stoodE : Try.prog.stoodInHeld 26 = false := by kernel_rfl
theorem eqlE (a b : Int) (s t : ByteArray) (c d : Int) (w : World) : (Go.binOp .eql 26 (.agg #[.int .i64 a, .string s, .int .i64 c]) (.agg #[.int .i64 b, .string t, .int .i64 d])).run Try.prog w =
    .ok (.bool (a == b && s.toList == t.toList && c == d)) w := by
  have h1 := stoodE
  rw [run_eql_struct]
  simp [go_sem, h1, Try.underlying26]
  by_cases e1 : a = b <;> by_cases e2 : s.toList = t.toList <;> by_cases e3 : c = d <;> simp [e1, e2, e3]
theorem neqE (a b : Int) (s t : ByteArray) (c d : Int) (w : World) : (Go.binOp .neq 26 (.agg #[.int .i64 a, .string s, .int .i64 c]) (.agg #[.int .i64 b, .string t, .int .i64 d])).run Try.prog w =
    .ok (.bool (!(a == b && s.toList == t.toList && c == d))) w := by
  have h1 := stoodE
  rw [run_neq_struct]
  simp [go_sem, h1, Try.underlying26]
  by_cases e1 : a = b <;> by_cases e2 : s.toList = t.toList <;> by_cases e3 : c = d <;> simp [e1, e2, e3]

theorem sameE_snoc {l m : List En} {k : Nat} {x y : En} (hx : l[k]? = some x) (hy : m[k]? = some y) : sameE (l.take (k + 1)) (m.take (k + 1)) = (sameE (l.take k) (m.take k) && x.eqv y) := by
  induction k generalizing l m with
  | zero => cases l <;> cases m <;> simp_all [sameE]
  | succ k ih => 
    cases l with
    | nil => simp at hx
    | cons a l => cases m with
      | nil => simp at hy
      | cons b m => simp only [List.getElem?_cons_succ] at hx hy; simp only [List.take_succ_cons, sameE]; rw [ih hx hy, Bool.and_assoc]
theorem sameE_false {l m : List En} {k : Nat} {x y : En} (hx : l[k]? = some x) (hy : m[k]? = some y) (h : x.eqv y = false) : sameE l m = false := by
  induction k generalizing l m with
  | zero => cases l <;> cases m <;> simp_all [sameE]
  | succ k ih =>
    cases l with
    | nil => simp at hx
    | cons a l => cases m with
      | nil => simp at hy
      | cons b m => simp only [List.getElem?_cons_succ] at hx hy; simp only [sameE]; rw [ih hx hy, Bool.and_false]
theorem sameE_len {l m : List En} (h : l.length ≠ m.length) : sameE l m = false := by
  induction l generalizing m with
  | nil => cases m <;> simp_all [sameE]
  | cons a l ih => cases m with
    | nil => simp [sameE]
    | cons b m => simp only [sameE]; rw [ih (by simpa using h), Bool.and_false]

set_option maxHeartbeats 400000 in
theorem sameEntries_any (w : World) (B : Nat) (v u : Value) (l m : List En) (hv : RdE w B v l) (hu : RdE w B u m) :
    Calls Try.prog 17 #[v, u] w fun e w' => e = .returned (.bool (sameE l m)) ∧ ∃ n, w' = w.drewN n := by
  obtain ⟨_, p, c, rfl, hlc, hcm, hp0, hp⟩ := hv
  obtain ⟨_, q, d, rfl, hmd, hdm, hq0, hq⟩ := hu
  unfold maxLen at hcm hdm
  by_cases hlen : l.length = m.length
  · have hb : ((l.length : Int) != (m.length : Int)) = false := by simp [hlen]
    have hle1 : l.length ≤ m.length := by omega
    have hle2 : m.length ≤ l.length := by omega
    have HL := Lib.hid hlen
    clear hlen
    go_enter Try.func17, Try.ntmps17
    go_wp2
    go_loopw [5] (fun i wr => ∃ k : Nat, k ≤ l.length ∧ i = .int .i64 k ∧ sameE (l.take k) (m.take k) = true ∧ ∃ n, wr = w.drewN n) (fun i _ => l.length - (intOf i).toNat)
    case atStart => exact ⟨0, Nat.zero_le _, rfl, by simp [sameE], 0, rfl⟩
    case round =>
      obtain ⟨k, hk, rfl, hsm, nr, rfl⟩ := hrel
      by_cases hlt : k < l.length
      · obtain ⟨b1, o1, rfl, hb1, hc1⟩ := slice_at (k := k) hp0 hp (by omega)
        obtain ⟨b2, o2, rfl, hb2, hc2⟩ := slice_at (k := k) hq0 hq (by omega)
        have hkm : k < m.length := by omega
        obtain ⟨x, hx, g10, g11, g12⟩ := hc1 k hlt
        obtain ⟨y, hy, g20, g21, g22⟩ := hc2 k (by omega)
        have HX := Lib.hid hx
        have HY := Lib.hid hy
        clear hx hy
        clear hp hq hc1 hc2 hp0 hq0
        have hg := guardE
        have hq := fun W => neqE x.seq y.seq x.id y.id x.what y.what W
        cases hxy : x.eqv y with
        | true =>
          have hq2 : (!(x.seq == y.seq && x.id.toList == y.id.toList && x.what == y.what)) = false := by unfold En.eqv at hxy; rw [hxy]; rfl
          have HS := Lib.hid (sameE_snoc HX.out HY.out)
          rw [hsm, hxy] at HS
          clear hxy
          go_wp2
          go_quiet (fail)
          go_wp2
          go_roundw
          case rel => exact ⟨k + 1, by omega, by go_num, HS.out, _, rfl⟩
          case measure => simp [intOf]; omega
        | false =>
          have hq2 : (!(x.seq == y.seq && x.id.toList == y.id.toList && x.what == y.what)) = true := by unfold En.eqv at hxy; rw [hxy]; rfl
          have HS := Lib.hid (sameE_false HX.out HY.out hxy)
          clear hxy
          go_wp2
          go_quiet (fail)
          go_wp2
          go_ret
          exact ⟨ret_bool HS.out.symm, _, World.drewN_drewN _ _ _⟩
      · go_wp2
        go_ret
        refine ⟨ret_bool ?_, _, rfl⟩
        have e := HL.out
        rw [List.take_of_length_le (by omega), List.take_of_length_le (by omega)] at hsm
        exact hsm.symm
  · have hb : ((l.length : Int) != (m.length : Int)) = true := by simp; omega
    go_enter Try.func17, Try.ntmps17
    go_wp2
    go_ret
    exact ⟨ret_bool (sameE_len hlen).symm, 0, rfl⟩
theorem eqv_eq (a b : En) : a.eqv b = decide (a = b) := by
  obtain ⟨s, i, x⟩ := a
  obtain ⟨t, j, y⟩ := b
  unfold En.eqv
  rw [toList_beq]
  by_cases h1 : s = t <;> by_cases h2 : i = j <;> by_cases h3 : x = y <;> simp [h1, h2, h3]
theorem sameE_eq (l m : List En) : sameE l m = decide (l = m) := by
  induction l generalizing m with
  | nil => cases m <;> simp [sameE]
  | cons a l ih => cases m with
    | nil => simp [sameE]
    | cons b m => simp only [sameE, ih, eqv_eq]; by_cases h1 : a = b <;> by_cases h2 : l = m <;> simp [h1, h2]

theorem same_any (w : World) (B : Nat) (v u : Value) (l m : List En) (hv : RdE w B v l) (hu : RdE w B u m) :
    Calls Try.prog 17 #[v, u] w fun e w' => e = .returned (.bool (decide (l = m))) ∧ ∃ n, w' = w.drewN n := by
  rw [← sameE_eq]
  exact sameEntries_any w B v u l m hv hu
end Go.Proofs.Ytfpgkiajggfadaa
