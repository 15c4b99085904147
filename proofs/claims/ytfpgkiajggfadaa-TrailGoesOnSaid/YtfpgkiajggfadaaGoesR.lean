/- The law on an entry added to a right trail: the row, proved, for every input. -/
import Derived.Test.YtfpgkiajggfadaaRows
import Derived.Test.YtfpgkiajggfadaaGoes
import Derived.Test.YtfpgkiajggfadaaOpen
import Derived.ProofKit
import Derived.SizedLaws
import Derived.Lib.SmallJoins
import Derived.Carry
set_option linter.unusedSimpArgs false
set_option linter.unusedVariables false
namespace Go.Proofs.Ytfpgkiajggfadaa
open Go.Joins Go.ChangeShapes Go.WideShapes Go.ChangeAt Go.RowKit Go.Lib

theorem Try.own : ownKnob Try.prog.godebug = none := by kernel_rfl
theorem Try.laidOut : laidOutB Try.prog = true := by kernel_rfl

set_option maxRecDepth 100000 in
theorem goesOn_lifted (os : Os) (started : os.Started) (H : Type) (enc : TypeId × Value → H) :
    ReturnsInHanded {} Try.checked os 7 .any (Rows.trailGoesOnSpec.pre6 enc Try.prog Try.f7 Rows.trailGoesOnRow.domain false) (Rows.trailGoesOnSpec.post enc Try.prog Try.f7 false true false false) := by
  refine returnsInHanded_of_change (C := Try.checked) Try.own started (by kernel_rfl) Try.func7
    (ChangeSpec.witness6 (enc := enc) (C := Try.checked) false ⟨#[], #[.slice none 0 0, .int .i64 0, .int .i64 0, .agg #[.int .i64 0, .string ⟨#[]⟩, .int .i64 0]], []⟩ 8 (by kernel_rfl) (by kernel_rfl) (by kernel_rfl) (by kernel_rfl)) ?_
  intro W base args ds gs before hval0 hW hcnd _
  have hval : ∀ (j : Nat) t v, Try.f7.params[j]? = some t → args[j]? = some v → Value.okWide Try.prog W .any base t v := hval0
  have hW' := hW
  obtain ⟨p, q, hA0, hV, rfl, hfz, hnd⟩ := hW
  have hA : DataW.TrodAll enc Try.prog W 0 (fun _ => true) true Try.f7.params.toList args.toList ds p := hA0
  rw [Try.params7] at hA hval
  obtain ⟨v0, v1, v2, v3, d0, d1, d2, d3, p0, p1, p2, p3, rfl, rfl, rfl, h0, h1, h2, h3⟩ := trodAll_four hA
  obtain ⟨rfl, rfl⟩ := trodVars_none hV
  obtain ⟨a, rfl, rfl, rfl, wa⟩ := open_int Try.underlying2 (hval 1 2 v1 rfl rfl) h1
  obtain ⟨b, rfl, rfl, rfl, wb⟩ := open_int Try.underlying3 (hval 2 3 v2 rfl rfl) h2
  obtain ⟨l, hl, hld⟩ := open_ents (hval 0 22 v0 rfl rfl) h0
  obtain ⟨w0, w1, w2, y0, y1, y2, n3, rfl, hd3, rfl, t0, t1, t2⟩ := open_agg3 Try.underlying26 (by kernel_rfl) (by kernel_rfl) (hval 3 26 v3 rfl rfl) h3
  obtain ⟨s, e0, f0, k0⟩ := DataW.trod_int Try.underlying2 t0
  obtain ⟨t, e1, f1, k1⟩ := DataW.trod_string Try.underlying9 t1
  obtain ⟨u, e2, f2, k2⟩ := DataW.trod_int Try.underlying3 t2
  simp only [List.cons.injEq, and_true] at e0 e1 e2
  subst e0 e1 e2
  rw [f0, f1, f2] at h3 hW' 
  simp only [List.append_nil] at h3
  clear hA0 hval0
  simp only [List.append_nil] at hW'
  have hlt : ∀ x ∈ p0, x.block < W.heap.size := fun x hx => hW'.lt x (by simpa using hx)
  refine (trailGoesOn_any W v0 l a b ⟨s, t, u⟩ hl ⟨k0, k1, k2⟩ wa wb).mono fun e W' ⟨he, hb⟩ => ?_
  subst he
  have hargs : DataW.Trod enc Try.prog W' 0 (fun b => decide (b < W.heap.size)) true 22 v0 d0 p0 :=
    Below.trod Try.laidOut (by kernel_rfl) (of_decide_eq_true (by kernel_rfl)) h0 hb hlt
  have hargs3 := Below.trod Try.laidOut (by kernel_rfl) (of_decide_eq_true (by kernel_rfl)) h3 hb (by simp)
  have hall := trodAll_mk4 hargs (shut_int (enc := enc) (w := W') (base := 0) (spare := fun b => decide (b < W.heap.size)) (held := true) Try.underlying2 wa) (shut_int (enc := enc) (w := W') (base := 0) (spare := fun b => decide (b < W.heap.size)) (held := true) Try.underlying3 wb) hargs3
  simp only [List.append_nil] at hall
  exact ⟨_, rfl, ⟨_, _, _, [], _, [], hW', trodAll_mk1 (shut_bool Try.underlying4 true), hall, rfl, hb.frame _, fun h => by cases h⟩⟩

theorem goesOn_holds : Rows.TrailGoesOnSaid :=
  OpenClaim.holds_of_wide 7 Try.f7 rfl rfl rfl rfl rfl rfl rfl ⟨rfl, rfl, rfl, rfl, rfl⟩ rfl rfl rfl rfl rfl (by kernel_rfl) Try.func7 (by kernel_rfl)
    (of_decide_eq_true (by kernel_rfl)) (by unfold Func.isWrapper; first | (rw [if_pos (by decide +kernel)]; kernel_rfl) | (rw [if_neg (by decide +kernel)]; exact ⟨rfl, rfl⟩))
    (fun os started H enc _ => goesOn_lifted os started H enc)

#print axioms goesOn_holds
end Go.Proofs.Ytfpgkiajggfadaa
