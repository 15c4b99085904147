import Derived.Test.YtfpgkiajggfadaaTrC
set_option linter.unusedSimpArgs false
set_option linter.unusedVariables false
namespace Go.Proofs.Ytfpgkiajggfadaa
open Go.RowKit Go.OpenShut

/-- What is said of an id. -/
structure Pa where
  id : ByteArray
  was : Bool
  isb : Bool
  last : Int
deriving DecidableEq
def encP (p : Pa) : List Value := [.string p.id, .bool p.was, .bool p.isb, .int .i64 p.last]
theorem codecP : Codec encP 4 := ⟨fun _ => rfl, fun x u hu => by
  simp only [encP, List.mem_cons, List.not_mem_nil, or_false] at hu
  rcases hu with rfl | rfl | rfl | rfl <;> rfl, by decide⟩

def Pa.eqv (a b : Pa) : Bool := a.id.toList == b.id.toList && a.was == b.was && a.isb == b.isb && a.last == b.last
theorem Pa.eqv_eq (a b : Pa) : a.eqv b = decide (a = b) := by
  obtain ⟨i, x, y, s⟩ := a
  obtain ⟨j, x', y', t⟩ := b
  unfold Pa.eqv
  rw [toList_beq]
  by_cases h1 : i = j <;> by_cases h2 : x = x' <;> by_cases h3 : y = y' <;> by_cases h4 : s = t <;> simp [h1, h2, h3, h4]

theorem guardP : Try.prog.eqGuardType Try.prog.depth 62 = false := by kernel_rfl
theorem stoodP : Try.prog.stoodInHeld 62 = false := by kernel_rfl
theorem neqP (s t : ByteArray) (a b c d : Bool) (x y : Int) (w : World) : (Go.binOp .neq 62 (.agg #[.string s, .bool a, .bool c, .int .i64 x]) (.agg #[.string t, .bool b, .bool d, .int .i64 y])).run Try.prog w =
    .ok (.bool (!(s.toList == t.toList && a == b && c == d && x == y))) w := by
  have h1 := stoodP
  rw [run_neq_struct]
  simp [go_sem, h1, Try.underlying62]
  by_cases e1 : s.toList = t.toList <;> by_cases e2 : a = b <;> by_cases e3 : c = d <;> by_cases e4 : x = y <;> simp [e1, e2, e3, e4]

theorem rd_at {α : Type} {enc : α → List Value} {sz n cap k B : Nat} {w : World} {p : Option Addr} {xs : List α} (h : Rd w B enc sz (.slice p n cap) xs) {x : α} (hx : xs[k]? = some x) :
    ∃ b o, p = some ⟨b, o, none⟩ ∧ b < B ∧ ∀ j u, (enc x)[j]? = some u → w.cell? ⟨b, o + k * sz + j, none⟩ = some u := by
  obtain ⟨p', cap', he, h1, h2, h3, h4⟩ := h
  simp only [Value.slice.injEq] at he
  obtain ⟨rfl, rfl, rfl⟩ := he
  have hk := (List.getElem?_eq_some_iff.1 hx).1
  cases p with
  | none => have := h3 rfl; omega
  | some a =>
    obtain ⟨b, o, rfl, hb, hr⟩ := h4 a rfl
    exact ⟨b, o, rfl, hb, hr k x hx⟩
theorem rd_len {α : Type} {enc : α → List Value} {sz B : Nat} {w : World} {v : Value} {xs : List α} (h : Rd w B enc sz v xs) : ∃ p cap, v = .slice p xs.length cap ∧ xs.length ≤ cap ∧ cap ≤ 9223372036854775807 := by
  obtain ⟨p, cap, he, h1, h2, _⟩ := h
  exact ⟨p, cap, he, h1, h2⟩

theorem eqTake_snoc {α : Type} [DecidableEq α] {l m : List α} {k : Nat} {x : α} (hx : l[k]? = some x) (hy : m[k]? = some x) (h : l.take k = m.take k) : l.take (k + 1) = m.take (k + 1) := by
  rw [List.take_add_one, List.take_add_one, hx, hy, h]
theorem eqTake_ne {α : Type} [DecidableEq α] {l m : List α} {k : Nat} {x y : α} (hx : l[k]? = some x) (hy : m[k]? = some y) (h : x ≠ y) : decide (l = m) = false := by
  rw [decide_eq_false_iff_not]
  rintro rfl
  rw [hx] at hy
  exact h (by simpa using hy)

set_option maxRecDepth 100000 in
set_option maxHeartbeats 400000 in
theorem samePast_any (w : World) (B : Nat) (v u : Value) (l m : List Pa) (hv : Rd w B encP 4 v l) (hu : Rd w B encP 4 u m) :
    Calls Try.prog 18 #[v, u] w fun e w' => e = .returned (.bool (decide (l = m))) ∧ ∃ n, w' = w.drewN n := by
  obtain ⟨p, c, rfl, hlc, hcm⟩ := rd_len hv
  obtain ⟨q, d, rfl, hmd, hdm⟩ := rd_len hu
  have HV := Lib.hid hv
  have HU := Lib.hid hu
  clear hv hu
  by_cases hlen : l.length = m.length
  · have hb : ((l.length : Int) != (m.length : Int)) = false := by simp [hlen]
    have hle1 : l.length ≤ m.length := by omega
    have hle2 : m.length ≤ l.length := by omega
    clear hlen
    go_enter Try.func18, Try.ntmps18
    go_wp2
    go_loopw [5] (fun i wr => ∃ k : Nat, k ≤ l.length ∧ i = .int .i64 k ∧ Hid (l.take k = m.take k) ∧ ∃ n, wr = w.drewN n) (fun i _ => l.length - (intOf i).toNat)
    case atStart => exact ⟨0, Nat.zero_le _, rfl, rfl, 0, rfl⟩
    case round =>
      obtain ⟨k, hk, rfl, hsm, nr, rfl⟩ := hrel
      by_cases hlt : k < l.length
      · have hkm : k < m.length := by omega
        obtain ⟨x, hx⟩ : ∃ x, l[k]? = some x := ⟨_, List.getElem?_eq_getElem hlt⟩
        obtain ⟨y, hy⟩ : ∃ y, m[k]? = some y := ⟨_, List.getElem?_eq_getElem hkm⟩
        obtain ⟨b1, o1, rfl, hb1, hc1⟩ := rd_at HV.out hx
        obtain ⟨b2, o2, rfl, hb2, hc2⟩ := rd_at HU.out hy
        have f0 := hc1 0 _ rfl
        have f1 := hc1 1 _ rfl
        have f2 := hc1 2 _ rfl
        have f3 := hc1 3 _ rfl
        have g0 := hc2 0 _ rfl
        have g1 := hc2 1 _ rfl
        have g2 := hc2 2 _ rfl
        have g3 := hc2 3 _ rfl
        rw [Nat.add_zero] at f0 g0
        have HX := Lib.hid hx
        have HY := Lib.hid hy
        clear hx hy hc1 hc2
        have hg := guardP
        have hq := fun W => neqP x.id y.id x.was y.was x.isb y.isb x.last y.last W
        cases hxy : x.eqv y with
        | true =>
          have hq2 : (!(x.id.toList == y.id.toList && x.was == y.was && x.isb == y.isb && x.last == y.last)) = false := by unfold Pa.eqv at hxy; rw [hxy]; rfl
          have hxy' : x = y := by rw [Pa.eqv_eq] at hxy; simpa using hxy
          have HS := Lib.hid (eqTake_snoc HX.out (hxy' ▸ HY.out) hsm.out)
          clear hxy hxy'
          go_wp2
          go_quiet (fail)
          go_wp2
          go_roundw
          case rel => exact ⟨k + 1, by omega, by go_num, HS, _, rfl⟩
          case measure => simp [intOf]; omega
        | false =>
          have hq2 : (!(x.id.toList == y.id.toList && x.was == y.was && x.isb == y.isb && x.last == y.last)) = true := by unfold Pa.eqv at hxy; rw [hxy]; rfl
          have hxy' : x ≠ y := by rw [Pa.eqv_eq] at hxy; simpa using hxy
          have HS := Lib.hid (eqTake_ne HX.out HY.out hxy')
          clear hxy hxy'
          go_wp2
          go_quiet (fail)
          go_wp2
          go_ret
          exact ⟨ret_bool HS.out.symm, _, World.drewN_drewN _ _ _⟩
      · go_wp2
        go_ret
        refine ⟨ret_bool ?_, _, rfl⟩
        have e := hsm.out
        rw [List.take_of_length_le (by omega), List.take_of_length_le (by omega)] at e
        simp [e]
  · have hb : ((l.length : Int) != (m.length : Int)) = true := by simp; omega
    go_enter Try.func18, Try.ntmps18
    go_wp2
    go_ret
    exact ⟨ret_bool (by symm; rw [decide_eq_false_iff_not]; rintro rfl; exact hlen rfl), 0, rfl⟩
end Go.Proofs.Ytfpgkiajggfadaa
