/- The comparison by the last number. -/
import Derived.Test.YtfpgkiajggfadaaSortP7
import Derived.Test.YtfpgkiajggfadaaPas
set_option linter.unusedSimpArgs false
set_option linter.unusedVariables false
namespace Go.Proofs.Ytfpgkiajggfadaa
open Go.Shelf Go.RowKit Go.Lib Go.Sort

def cfP (x y : Pa) : Int := if x.last < y.last then -1 else if y.last < x.last then 1 else 0
theorem cmpP : Cmp cfP := by
  constructor <;> intros <;> simp only [cfP] at * <;> (repeat' split at *) <;> first | omega | grind

set_option maxRecDepth 100000 in
theorem cmp_any : SP.CmpAny Try.prog 41 #[] encP cfP := by
  intro W x y
  obtain ⟨i, a, b, s⟩ := x
  obtain ⟨j, c, d, t⟩ := y
  simp only [encP, cfP]
  show Calls Try.prog 41 #[.agg #[.string i, .bool a, .bool b, .int .i64 s], .agg #[.string j, .bool c, .bool d, .int .i64 t]] W _
  by_cases h1 : s < t
  · have e1 : decide (s < t) = true := by simpa using h1
    clear h1
    rw [if_pos (by simpa using e1)]
    go_enter Try.func41, Try.ntmps41
    go_wp2_with fail
    go_ret
    exact ⟨rfl, 0, _, by rw [alloc_eq_grow, alloc_eq_grow, grow_grow]; rfl⟩
  · have e1 : decide (s < t) = false := by simpa using h1
    clear h1
    rw [if_neg (by simpa using e1)]
    by_cases h2 : t < s
    · have e2 : decide (s > t) = true := by simpa using h2
      clear h2
      rw [if_pos (by simpa using e2)]
      go_enter Try.func41, Try.ntmps41
      go_wp2_with fail
      go_ret
      exact ⟨rfl, 0, _, by rw [alloc_eq_grow, alloc_eq_grow, grow_grow]; rfl⟩
    · have e2 : decide (s > t) = false := by simpa using h2
      clear h2
      rw [if_neg (by simpa using e2)]
      go_enter Try.func41, Try.ntmps41
      go_wp2_with fail
      go_ret
      exact ⟨rfl, 0, _, by rw [alloc_eq_grow, alloc_eq_grow, grow_grow]; rfl⟩
end Go.Proofs.Ytfpgkiajggfadaa
