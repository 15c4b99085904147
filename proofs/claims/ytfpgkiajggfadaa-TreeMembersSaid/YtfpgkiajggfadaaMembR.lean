/- The law TreeMembers: the row, proved, for every input. -/
import Derived.Test.YtfpgkiajggfadaaRows
import Derived.Test.YtfpgkiajggfadaaRow
import Derived.Test.YtfpgkiajggfadaaMemb
import Derived.Test.YtfpgkiajggfadaaTree1
import Derived.Lib.SmallJoins
import Derived.ChangeMaps5
set_option linter.unusedSimpArgs false
set_option linter.unusedVariables false
namespace Go.Proofs.Ytfpgkiajggfadaa
open Go.Joins Go.ChangeShapes Go.WideShapes Go.ChangeAt Go.RowKit Go.Lib

theorem Try.own : ownKnob Try.prog.godebug = none := by kernel_rfl
theorem Try.laidOut : laidOutB Try.prog = true := by kernel_rfl

section
variable {H : Type} {P : Program}
theorem weights_at {R : Nat} : ∀ (ts : List TypeId) (ds : List (DataW H)) (i : Nat) (t : TypeId) (d : DataW H), ts[i]? = some t → ds[i]? = some d → (DataW.weightsEach P ts ds).all (· ≤ R) = true → ∀ n ∈ d.weights P t, n ≤ R
  | [], _, i, t, d, h, _, _ => by simp at h
  | _ :: _, [], i, t, d, _, h, _ => by simp at h
  | t :: ts, e :: ds, 0, u, d, h1, h2, h => by
    simp only [List.getElem?_cons_zero, Option.some.injEq] at h1 h2
    subst h1 h2
    intro n hn
    simp only [DataW.weightsEach, List.all_append, Bool.and_eq_true, List.all_eq_true, decide_eq_true_eq] at h
    exact h.1 n hn
  | t :: ts, e :: ds, i + 1, u, d, h1, h2, h => by
    simp only [List.getElem?_cons_succ] at h1 h2
    simp only [DataW.weightsEach, List.all_append, Bool.and_eq_true] at h
    exact weights_at ts ds i u d h1 h2 h.2
end

set_option maxRecDepth 100000 in
theorem treeMembers_lifted (os : Os) (started : os.Started) (H : Type) (enc : TypeId × Value → H) :
    ReturnsInHanded {} Try.checked os 9 .any (Rows.treeMembersSpec.pre6 enc Try.prog Try.f9 Rows.treeMembersRow.domain false) (Rows.treeMembersSpec.post enc Try.prog Try.f9 false true false false) := by
  refine law_lifted (C := Try.checked) Try.own started (by kernel_rfl) Try.func9 rfl (fun ds h => by obtain ⟨a, b, c, rfl⟩ := len3 h; rfl) rfl Try.underlying4 Try.laidOut (of_decide_eq_true (by kernel_rfl))
    (ChangeSpec.witness6 (enc := enc) (C := Try.checked) false ⟨#[], #[.agg #[.int .i64 0, .int .i64 0, .string ⟨#[]⟩, .slice none 0 0, .slice none 0 0], .string ⟨#[]⟩, .agg #[.int .i64 0, .int .i64 0, .string ⟨#[]⟩, .slice none 0 0, .slice none 0 0]], []⟩ 8 (by kernel_rfl) (by kernel_rfl) (by kernel_rfl) (by kernel_rfl)) ?_
  intro W base args ds p hval hA hsz
  have hA' : DataW.TrodAll enc Try.prog W 0 (fun _ => true) true Try.f9.params.toList args.toList ds p := hA
  have hval' : ∀ (j : Nat) t v, Try.f9.params[j]? = some t → args[j]? = some v → Value.okWide Try.prog W .any base t v := hval
  have hsz' : (DataW.weightsEach Try.prog (Try.f9.params.toList ++ Rows.treeMembersSpec.plain.varTypes Try.prog) ds).all (· ≤ reachBytes) = true := hsz
  rw [Try.params9] at hA' hval' hsz'
  clear hA hval hsz
  obtain ⟨v0, v1, v2, d0, d1, d2, p0, p1, p2, rfl, rfl, rfl, h0, h1, h2⟩ := trodAll_three hA'
  obtain ⟨r0, t0, rfl, ht0, ok0⟩ := open_value (hval' 0 45 v0 rfl rfl) h0
  have ot0 := ok0 (weights_at _ _ 0 45 _ rfl rfl hsz')
  obtain ⟨s1, rfl, rfl, rfl, _⟩ := Go.ChangeMaps.open_string Try.underlying9 (hval' 1 9 v1 rfl rfl) h1
  have hs1 := weights_string (weights_at _ _ 1 9 _ rfl rfl hsz')
  obtain ⟨r2, t2, rfl, ht2, ok2⟩ := open_value (hval' 2 45 v2 rfl rfl) h2
  have ot2 := ok2 (weights_at _ _ 2 45 _ rfl rfl hsz')
  exact treeMembers_any W t0 t2 r0 r2 s1 ht0 ot0 ht2 ot2 hs1

theorem treeMembers_holds : Rows.TreeMembersSaid :=
  OpenClaim.holds_of_wide 9 Try.f9 rfl rfl rfl rfl rfl rfl rfl ⟨rfl, rfl, rfl, rfl, rfl⟩ rfl rfl rfl rfl rfl (by kernel_rfl) Try.func9 (by kernel_rfl)
    (of_decide_eq_true (by kernel_rfl)) (by unfold Func.isWrapper; first | (rw [if_pos (by decide +kernel)]; kernel_rfl) | (rw [if_neg (by decide +kernel)]; exact ⟨rfl, rfl⟩))
    (fun os started H enc _ => treeMembers_lifted os started H enc)

#print axioms treeMembers_holds
end Go.Proofs.Ytfpgkiajggfadaa
