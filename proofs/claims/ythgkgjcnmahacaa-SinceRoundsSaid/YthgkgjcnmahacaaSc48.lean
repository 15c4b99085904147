import Derived.Test.YthgkgjcnmahacaaRows
import Derived.Test.YthgkgjcnmahacaaSc00
import Derived.Test.YthgkgjcnmahacaaSc46
import Derived.Test.YthgkgjcnmahacaaSc02
import Derived.Test.YthgkgjcnmahacaaSc04
import Derived.Test.YthgkgjcnmahacaaSc47
import Derived.Lib.SmallJoins
import Derived.ChangeMaps5
/- The law SinceRounds: the row, proved, for every input. -/
set_option linter.unusedSimpArgs false
set_option linter.unusedVariables false
namespace Go.Proofs.Ythgkgjcnmahacaa
open Go.Joins Go.ChangeShapes Go.WideShapes Go.ChangeAt Go.RowKit Go.Lib

theorem Try.own : ownKnob Try.prog.godebug = none := by kernel_rfl
theorem Try.laidOut : laidOutB Try.prog = true := by kernel_rfl

section
variable {H : Type} {P : Program}
theorem weights_at {R : Nat} : ∀ (ts : List TypeId) (ds : List (DataW H)) (i : Nat) (t : TypeId) (d : DataW H), ts[i]? = some t → ds[i]? = some d → (DataW.weightsEach P ts ds).all (· ≤ R) = true → ∀ n ∈ d.weights P t, n ≤ R
  | [], _, i, t, d, h, _, _ => by simp at h
  | _ :: _, [], i, t, d, _, h, _ => by simp at h
  | t :: ts, e :: ds, 0, u, d, h1, h2, h => by
    simp only [List.getElem?_cons_zero, Option.some.injEq] at h1 h2
    subst h1 h2
    intro n hn
    simp only [DataW.weightsEach, List.all_append, Bool.and_eq_true, List.all_eq_true, decide_eq_true_eq] at h
    exact h.1 n hn
  | t :: ts, e :: ds, i + 1, u, d, h1, h2, h => by
    simp only [List.getElem?_cons_succ] at h1 h2
    simp only [DataW.weightsEach, List.all_append, Bool.and_eq_true] at h
    exact weights_at ts ds i u d h1 h2 h.2
end

set_option maxRecDepth 100000 in
set_option maxHeartbeats 4000000 in
theorem sinceRounds_lifted (os : Os) (started : os.Started) (H : Type) (enc : TypeId × Value → H) :
    ReturnsInHanded {} Try.checked os 12 .any (Rows.sinceRoundsSpec.pre6 enc Try.prog Try.f12 Rows.sinceRoundsRow.domain false) (Rows.sinceRoundsSpec.post enc Try.prog Try.f12 false true false false) := by
  refine law_lifted (C := Try.checked) Try.own started (by kernel_rfl) Try.func12 rfl (fun ds h => by obtain ⟨a, b, c, rfl⟩ := len3 h; rfl) rfl Try.underlying4 Try.laidOut (of_decide_eq_true (by kernel_rfl))
    (ChangeSpec.witness6 (enc := enc) (C := Try.checked) false ⟨#[], #[.agg #[.slice none 0 0, .slice none 0 0, .int .i64 0, .int .i64 0, .int .i64 0], .slice none 0 0, .int .i64 0], []⟩ 8 (by kernel_rfl) (by kernel_rfl) (by kernel_rfl) (by kernel_rfl)) ?_
  intro W base args ds p hval hA hsz
  have hA' : DataW.TrodAll enc Try.prog W 0 (fun _ => true) true Try.f12.params.toList args.toList ds p := hA
  have hval' : ∀ (j : Nat) t v, Try.f12.params[j]? = some t → args[j]? = some v → Value.okWide Try.prog W .any base t v := hval
  have hsz' : (DataW.weightsEach Try.prog (Try.f12.params.toList ++ Rows.sinceRoundsSpec.plain.varTypes Try.prog) ds).all (· ≤ reachBytes) = true := hsz
  rw [Try.params12] at hA' hval' hsz'
  clear hA hval hsz
  obtain ⟨v0, v1, v2, d0, d1, d2, p0, p1, p2, rfl, rfl, rfl, h0, h1, h2⟩ := trodAll_three hA'
  obtain ⟨r0, t0, rfl, ht0, ok0⟩ := open_box (hval' 0 35 v0 rfl rfl) h0
  have ot0 := ok0 (weights_at _ _ 0 35 _ rfl rfl hsz')
  obtain ⟨ops1, hv1, ht1, ok1⟩ := open_ops (hval' 1 78 v1 rfl rfl) h1
  have ot1 := ok1 (weights_at _ _ 1 78 _ rfl rfl hsz')
  obtain ⟨a2, rfl, rfl, rfl, wa2⟩ := open_int Try.underlying3 (hval' 2 3 v2 rfl rfl) h2
  exact sinceRounds_any W t0 r0 ops1 _ a2 ht0 ot0 hv1 ht1 ot1 wa2

theorem sinceRounds_holds : Rows.SinceRoundsSaid :=
  OpenClaim.holds_of_wide 12 Try.f12 rfl rfl rfl rfl rfl rfl rfl ⟨rfl, rfl, rfl, rfl, rfl⟩ rfl rfl rfl rfl rfl (by kernel_rfl) Try.func12 (by kernel_rfl)
    (of_decide_eq_true (by kernel_rfl)) (by unfold Func.isWrapper; first | (rw [if_pos (by decide +kernel)]; kernel_rfl) | (rw [if_neg (by decide +kernel)]; exact ⟨rfl, rfl⟩))
    (fun os started H enc _ => sinceRounds_lifted os started H enc)

#print axioms sinceRounds_holds
end Go.Proofs.Ythgkgjcnmahacaa
