/- The laws on right trails, on added entries and on what became of ids, walked. -/
import Derived.Test.YtfpgkiajggfadaaAw
namespace Go.Proofs.Ytfpgkiajggfadaa
open Go.RowKit Go.OpenShut

set_option maxRecDepth 100000 in
set_option maxHeartbeats 1000000 in
theorem trailRights_any (w : World) (v : Value) (l : List En) (floor seq : Int) (hv : RdE w w.heap.size v l) (hf : (Lit.int .i64 floor).wf = true) (hs : (Lit.int .i64 seq).wf = true) :
    Calls Try.prog 3 #[v, .int .i64 floor, .int .i64 seq] w fun e w' => e = .returned (.bool true) ∧ Below w.heap.size w w' := by
  obtain ⟨_, p, c, rfl, _⟩ := id hv
  have h1 := right_any w _ l floor seq hv hf hs
  have h2 := fun (W : World) (hb : Below w.heap.size w W) => refRight_any W w.heap.size (.slice p l.length c) l floor seq (rdE_iff.2 ⟨(rdE_iff.1 hv).1, (rdE_iff.1 hv).2.below hb (Nat.le_refl _)⟩) hf hs
  generalize rightB l floor seq = b at h1 h2
  have H1 := Lib.hid h1
  have H2 := Lib.hid h2
  clear hv h1 h2 hf hs
  by_cases hl : 500 < l.length
  · have q1 : decide ((l.length : Int) > 500) = true := by simp; omega
    go_enter Try.func3, Try.ntmps3
    go_wp2_with fail
    go_ret
    exact ⟨rfl, Below.refl _ _⟩
  · have q1 : decide ((l.length : Int) > 500) = false := by simp; omega
    go_enter Try.func3, Try.ntmps3
    go_wp2_with (first
      | (go_at_call 12; refine H1.out.mono ?_; rintro e w1 ⟨rfl, hb1⟩)
      | (go_at_call 13; refine (H2.out _ hb1).mono ?_; rintro e w2 ⟨rfl, n2, rfl⟩)
      | (go_at_call 14; refine (awake_any _).mono ?_; rintro e w3 ⟨rfl, hb3⟩))
    go_ret
    exact ⟨rfl, (bdn hb1 _).trans (hb3.mono hb1.size)⟩
end Go.Proofs.Ytfpgkiajggfadaa
