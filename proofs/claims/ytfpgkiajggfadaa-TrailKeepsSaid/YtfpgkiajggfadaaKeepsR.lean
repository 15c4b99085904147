/- The law that what is handed in to trail stays: the row, proved, for every input. -/
import Derived.Test.YtfpgkiajggfadaaRows
import Derived.Test.YtfpgkiajggfadaaRow
import Derived.Test.YtfpgkiajggfadaaKeeps
import Derived.Test.YtfpgkiajggfadaaOpen
import Derived.Lib.SmallJoins
set_option linter.unusedSimpArgs false
set_option linter.unusedVariables false
namespace Go.Proofs.Ytfpgkiajggfadaa
open Go.Joins Go.ChangeShapes Go.WideShapes Go.ChangeAt Go.RowKit Go.Lib

theorem Try.own : ownKnob Try.prog.godebug = none := by kernel_rfl
theorem Try.laidOut : laidOutB Try.prog = true := by kernel_rfl

set_option maxRecDepth 100000 in
theorem keeps_lifted (os : Os) (started : os.Started) (H : Type) (enc : TypeId × Value → H) :
    ReturnsInHanded {} Try.checked os 8 .any (Rows.trailKeepsSpec.pre6 enc Try.prog Try.f8 Rows.trailKeepsRow.domain false) (Rows.trailKeepsSpec.post enc Try.prog Try.f8 false true false false) := by
  refine law_lifted (C := Try.checked) Try.own started (by kernel_rfl) Try.func8 rfl (fun ds h => by obtain ⟨a, b, c, rfl⟩ := len3 h; rfl) rfl Try.underlying4 Try.laidOut (of_decide_eq_true (by kernel_rfl))
    (ChangeSpec.witness6 (enc := enc) (C := Try.checked) false ⟨#[], #[.slice none 0 0, .int .i64 0, .agg #[.int .i64 0, .string ⟨#[]⟩, .int .i64 0]], []⟩ 8 (by kernel_rfl) (by kernel_rfl) (by kernel_rfl) (by kernel_rfl)) ?_
  intro W base args ds p hval hA hsz
  have hA' : DataW.TrodAll enc Try.prog W 0 (fun _ => true) true Try.f8.params.toList args.toList ds p := hA
  have hval' : ∀ (j : Nat) t v, Try.f8.params[j]? = some t → args[j]? = some v → Value.okWide Try.prog W .any base t v := hval
  rw [Try.params8] at hA' hval'
  obtain ⟨v0, v1, v2, d0, d1, d2, p0, p1, p2, rfl, rfl, rfl, h0, h1, h2⟩ := trodAll_three hA'
  obtain ⟨l, hl, _⟩ := open_ents (hval' 0 22 v0 rfl rfl) h0
  obtain ⟨a, rfl, rfl, rfl, wa⟩ := open_int Try.underlying3 (hval' 1 3 v1 rfl rfl) h1
  obtain ⟨w0, w1, w2, y0, y1, y2, n3, rfl, hd3, rfl, t0, t1, t2⟩ := open_agg3 Try.underlying26 (by kernel_rfl) (by kernel_rfl) (hval' 2 26 v2 rfl rfl) h2
  obtain ⟨s, e0, f0, k0⟩ := DataW.trod_int Try.underlying2 t0
  obtain ⟨t, e1, f1, k1⟩ := DataW.trod_string Try.underlying9 t1
  obtain ⟨u, e2, f2, k2⟩ := DataW.trod_int Try.underlying3 t2
  simp only [List.cons.injEq, and_true] at e0 e1 e2
  subst e0 e1 e2
  exact trailKeeps_any W v0 l a ⟨s, t, u⟩ hl ⟨k0, k1, k2⟩ wa

theorem keeps_holds : Rows.TrailKeepsSaid :=
  OpenClaim.holds_of_wide 8 Try.f8 rfl rfl rfl rfl rfl rfl rfl ⟨rfl, rfl, rfl, rfl, rfl⟩ rfl rfl rfl rfl rfl (by kernel_rfl) Try.func8 (by kernel_rfl)
    (of_decide_eq_true (by kernel_rfl)) (by unfold Func.isWrapper; first | (rw [if_pos (by decide +kernel)]; kernel_rfl) | (rw [if_neg (by decide +kernel)]; exact ⟨rfl, rfl⟩))
    (fun os started H enc _ => keeps_lifted os started H enc)

#print axioms keeps_holds
end Go.Proofs.Ytfpgkiajggfadaa
