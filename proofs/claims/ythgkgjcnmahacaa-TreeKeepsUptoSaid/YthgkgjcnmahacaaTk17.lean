import Derived.Test.YthgkgjcnmahacaaRows
import Derived.Test.YthgkgjcnmahacaaTk00
import Derived.Test.YthgkgjcnmahacaaTk16
import Derived.JoinedCond
import Derived.Lib.SmallJoins
import Derived.ChangeMaps5
/- The law TreeKeeps: the row, proved, for every input. -/
set_option linter.unusedSimpArgs false
set_option linter.unusedVariables false
namespace Go.Proofs.Ythgkgjcnmahacaa
open Go.Joins Go.ChangeShapes Go.WideShapes Go.ChangeAt Go.RowKit Go.Lib

theorem Try.own : ownKnob Try.prog.godebug = none := by kernel_rfl
theorem Try.laidOut : laidOutB Try.prog = true := by kernel_rfl

section
variable {H : Type} {P : Program}
theorem weights_at {R : Nat} : ∀ (ts : List TypeId) (ds : List (DataW H)) (i : Nat) (t : TypeId) (d : DataW H), ts[i]? = some t → ds[i]? = some d → (DataW.weightsEach P ts ds).all (· ≤ R) = true → ∀ n ∈ d.weights P t, n ≤ R
  | [], _, i, t, d, h, _, _ => by simp at h
  | _ :: _, [], i, t, d, _, h, _ => by simp at h
  | t :: ts, e :: ds, 0, u, d, h1, h2, h => by
    simp only [List.getElem?_cons_zero, Option.some.injEq] at h1 h2
    subst h1 h2
    intro n hn
    simp only [DataW.weightsEach, List.all_append, Bool.and_eq_true, List.all_eq_true, decide_eq_true_eq] at h
    exact h.1 n hn
  | t :: ts, e :: ds, i + 1, u, d, h1, h2, h => by
    simp only [List.getElem?_cons_succ] at h1 h2
    simp only [DataW.weightsEach, List.all_append, Bool.and_eq_true] at h
    exact weights_at ts ds i u d h1 h2 h.2
end

set_option maxRecDepth 100000 in
set_option maxHeartbeats 4000000 in
theorem treeKeeps_lifted (os : Os) (started : os.Started) (H : Type) (enc : TypeId × Value → H) (F : Stop.Interp) :
    ReturnsInHanded {} Try.checked os 8 .any ((Rows.OpenSpec.upto Rows.treeKeepsSpec).pre6 enc Try.prog Try.f8 Rows.treeKeepsUptoRow.domain false) (((Rows.OpenSpec.upto Rows.treeKeepsSpec).at F).post enc Try.prog Try.f8 false true false false) := by
  refine law_upto (C := Try.checked) (s := Rows.treeKeepsSpec) F Try.own started (by kernel_rfl) Try.func8 rfl (fun ds h => by obtain ⟨a, b, rfl⟩ := len2 h; rfl) rfl Try.underlying4 Try.laidOut (of_decide_eq_true (by kernel_rfl))
    (OpenSpec.witness (enc := enc) (C := Try.checked) (s := Rows.OpenSpec.upto Rows.treeKeepsSpec) (k := Rows.uptoSmall) rfl false ⟨#[], #[.agg #[.int .i64 0, .int .i64 0, .string ⟨#[]⟩, .slice none 0 0, .slice none 0 0], .string ⟨#[]⟩], []⟩ 8 (by kernel_rfl) (by kernel_rfl) (by kernel_rfl) (x := ([.agg [.lit (.int .i64 0), .lit (.int .i64 0), .lit (.string []), .nil, .nil], .lit (.string [])], [], [])) (by kernel_rfl) rfl (by kernel_rfl)) ?_
  intro W base args ds p hval hA hsz hk
  have hA' : DataW.TrodAll enc Try.prog W 0 (fun _ => true) true Try.f8.params.toList args.toList ds p := hA
  have hval' : ∀ (j : Nat) t v, Try.f8.params[j]? = some t → args[j]? = some v → Value.okWide Try.prog W .any base t v := hval
  have hsz' : (DataW.weightsEach Try.prog (Try.f8.params.toList ++ Rows.treeKeepsSpec.plain.varTypes Try.prog) ds).all (· ≤ reachBytes) = true := hsz
  rw [Try.params8] at hA' hval' hsz'
  clear hA hval hsz
  obtain ⟨v0, v1, d0, d1, p0, p1, rfl, rfl, rfl, h0, h1⟩ := trodAll_two hA'
  simp only [Rows.uptoBulkAll] at hk
  obtain ⟨r0, t0, rfl, ht0, ok0, hb0⟩ := open_valueB (hval' 0 25 v0 rfl rfl) h0
  have bt0 : bkT t0 ≤ 1048576 := by omega
  have ot0 := ok0 (weights_at _ _ 0 25 _ rfl rfl hsz')
  obtain ⟨s1, rfl, rfl, rfl, _⟩ := Go.ChangeMaps.open_string Try.underlying9 (hval' 1 9 v1 rfl rfl) h1
  have hs1 := weights_string (weights_at _ _ 1 9 _ rfl rfl hsz')
  exact treeKeeps_any W t0 r0 s1 ht0 ot0 bt0

theorem treeKeeps_holds : Rows.TreeKeepsUptoSaid :=
  OpenClaim.holds_of_cond 8 Try.f8 rfl rfl rfl rfl rfl rfl rfl ⟨rfl, rfl, rfl, rfl, rfl⟩ rfl rfl rfl rfl rfl (by kernel_rfl) Try.func8 (by kernel_rfl)
    (of_decide_eq_true (by kernel_rfl)) (by unfold Func.isWrapper; first | (rw [if_pos (by decide +kernel)]; kernel_rfl) | (rw [if_neg (by decide +kernel)]; exact ⟨rfl, rfl⟩))
    (fun os started H enc _ F => treeKeeps_lifted os started H enc F)

#print axioms treeKeeps_holds
end Go.Proofs.Ythgkgjcnmahacaa
