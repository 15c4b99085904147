import Derived.Test.YtanemojiaahbgaaGreatDoorCards
import Derived.Test.YtanemojiaahbgaaGreatDoorTie
import Derived.Test.YtanemojiaahbgaaGreatDoorSf00
import Derived.Test.YtanemojiaahbgaaGreatDoorSf16
import Derived.Test.YtanemojiaahbgaaGreatDoorSf39
import Derived.WalkKit
import Derived.ProofKit
import Derived.OpenShut
import Derived.Deep.DeepHandedRow
import Derived.Deep.DeepWitnessRowRef
import Derived.Lay
import Derived.Lib.SmallJoins
import Derived.ChangeMaps5
/- The law FetchShows: the row and its card, for every input. -/
set_option linter.unusedSimpArgs false
set_option linter.unusedVariables false
namespace Go.Proofs.YtanemojiaahbgaaGreatDoor
open Go.Joins Go.ChangeShapes Go.WideShapes Go.ChangeAt Go.RowKit Go.Lib

theorem Tryz.own : ownKnob Tryz.prog.godebug = none := by kernel_rfl
theorem Tryz.laidOut : laidOutB Tryz.prog = true := by kernel_rfl

section
variable {H : Type} {P : Program}
theorem weights_at {R : Nat} : ∀ (ts : List TypeId) (ds : List (DataW H)) (i : Nat) (t : TypeId) (d : DataW H), ts[i]? = some t → ds[i]? = some d → (DataW.weightsEach P ts ds).all (· ≤ R) = true → ∀ n ∈ d.weights P t, n ≤ R
  | [], _, i, t, d, h, _, _ => by simp at h
  | _ :: _, [], i, t, d, _, h, _ => by simp at h
  | t :: ts, e :: ds, 0, u, d, h1, h2, h => by
    simp only [List.getElem?_cons_zero, Option.some.injEq] at h1 h2
    subst h1 h2
    intro n hn
    simp only [DataW.weightsEach, List.all_append, Bool.and_eq_true, List.all_eq_true, decide_eq_true_eq] at h
    exact h.1 n hn
  | t :: ts, e :: ds, i + 1, u, d, h1, h2, h => by
    simp only [List.getElem?_cons_succ] at h1 h2
    simp only [DataW.weightsEach, List.all_append, Bool.and_eq_true] at h
    exact weights_at ts ds i u d h1 h2 h.2
end

def zeroArgsShows : Array Value := #[.agg #[.string ⟨#[]⟩, .int .i64 0, .int .i64 0, .string ⟨#[]⟩, .slice none 0 0, .slice none 0 0], .slice none 0 0]
noncomputable abbrev laidShows (os : Os) : World := World.laidAll Tryz.prog os Rows.fetchShowsRow.laid
set_option maxRecDepth 100000 in
theorem laid_met_shows (os : Os) : laidMet Tryz.prog Rows.fetchShowsRow.laid ((laidShows os).forCall (fun _ _ => 0) ⟨#[], zeroArgsShows, []⟩).memory :=
  laidMet_laidAll zeroArgsShows (by kernel_rfl) (by kernel_rfl)
set_option maxRecDepth 100000 in
theorem reads_shows (os : Os) {H : Type} (enc : TypeId × Value → H) : ∃ ds places, DataW.whole enc Tryz.prog ((laidShows os).forCall (fun _ _ => 0) ⟨#[], zeroArgsShows, []⟩).memory Tryz.f4.params.toList Rows.fetchShowsSpec.vars false zeroArgsShows.toList 8 = some (ds, [], places) :=
  ⟨[.agg [.lit (.string []), .agg [.lit (.int .i64 0), .lit (.int .i64 0), .lit (.string []), .nil, .nil]], .nil], [], by kernel_rfl⟩

set_option maxRecDepth 100000 in
theorem contract_shows (H : Type) (enc : TypeId × Value → H) (W : World) (base : Nat) (args : Array Value) (ds gs : List (DataW H)) (before : List MemPlace)
    (hval : ∀ (j : Nat) t v, Tryz.f4.params[j]? = some t → args[j]? = some v → Value.okWide Tryz.prog W .any base t v)
    (hW : DataW.Whole enc Tryz.prog Tryz.f4.params.toList Rows.fetchShowsSpec.vars false W args.toList ds gs before)
    (hsz : (DataW.weightsEach Tryz.prog (Tryz.f4.params.toList ++ Rows.fetchShowsSpec.plain.varTypes Tryz.prog) (ds ++ gs)).all (· ≤ reachBytes) = true)
    (hL : laidMetH Tryz.prog Rows.fetchShowsRow.laid W) (hS : W.ShapedOpen Tryz.prog) :
    Calls Tryz.prog 4 args W fun e W' => ∃ v, e = .returned v ∧ Rows.fetchShowsSpec.post enc Tryz.prog Tryz.f4 false true false false W args v W' := by
  have hW' := hW
  have hV : Vars W := vars_of (by kernel_rfl) (by kernel_rfl) hL hS
  obtain ⟨p, q, hA, hVr, rfl, hfz, hnd⟩ := hW
  obtain ⟨rfl, rfl⟩ := trodVars_none hVr
  rw [List.append_nil] at hsz
  have hA' : DataW.TrodAll enc Tryz.prog W 0 (fun _ => true) true Tryz.f4.params.toList args.toList ds p := hA
  rw [Tryz.params4] at hA' hval hsz
  obtain ⟨v0, v1, d0, d1, p0, p1, rfl, rfl, rfl, h0, h1⟩ := trodAll_two hA'
  obtain ⟨id, r0, t0, rfl, ht0, ok0⟩ := open_objectF (hval 0 40 v0 rfl rfl) h0
  obtain ⟨hid, ot0⟩ := ok0 (weights_at _ _ 0 40 _ rfl rfl hsz)
  obtain ⟨q1, n1, c1, l1, rfl, hr1, ok1⟩ := open_textsF (hval 1 41 v1 rfl rfl) h1
  obtain ⟨hl1, hs1⟩ := ok1 (weights_at _ _ 1 41 _ rfl rfl hsz)
  refine (fetchShows_any id t0 r0 l1 q1 n1 c1 W hV hid ht0 ot0 hr1 hl1 hs1).mono fun e W' ⟨he, hb⟩ => ?_
  exact ⟨_, he, law_post rfl (fun ds h => by obtain ⟨a, b, rfl⟩ := len2 h; rfl) rfl Tryz.underlying4 Tryz.laidOut (of_decide_eq_true (by kernel_rfl)) hW' hb⟩

set_option maxRecDepth 100000 in
theorem fetchShows_lifted (os : Os) (started : os.Started) (H : Type) (enc : TypeId × Value → H) (F : Stop.Interp) :
    ReturnsInHanded {} Tryz.checked os 4 .any ((OpenSpec.ofChange Rows.fetchShowsSpec).preRow enc Tryz.prog Tryz.f4 Rows.fetchShowsRow.domain false Rows.fetchShowsRow.laid) (((OpenSpec.ofChange Rows.fetchShowsSpec).at F).post enc Tryz.prog Tryz.f4 false true false false) := by
  obtain ⟨ds, places, hx⟩ := reads_shows os enc
  refine returnsInHanded_of_row (C := Tryz.checked) (s := OpenSpec.ofChange Rows.fetchShowsSpec) Tryz.own started (by kernel_rfl) Tryz.func4
    (witness_row_atRef (enc := enc) (C := Tryz.checked) false (laidShows os) zeroArgsShows (World.laidAll_os _ _ _) (by kernel_rfl) (by kernel_rfl) (by kernel_rfl)
      (OpenSpec.preRow_of_cond 8 hx (by kernel_rfl) (fun k hk => by cases hk) (by kernel_rfl) (laid_met_shows os))) ?_
  intro W base args ds gs before hval hW _ _ hsz hL hS _
  exact contract_shows H enc W base args ds gs before hval hW hsz hL hS

theorem fetchShows_said : Rows.FetchShowsSaid :=
  OpenClaim.holds_of_cond 4 Tryz.f4 rfl rfl rfl rfl rfl rfl rfl ⟨rfl, rfl, rfl, rfl, rfl⟩ rfl rfl rfl rfl rfl (by kernel_rfl) Tryz.func4 (by kernel_rfl)
    (of_decide_eq_true (by kernel_rfl)) (by unfold Func.isWrapper; first | (rw [if_pos (by decide +kernel)]; kernel_rfl) | (rw [if_neg (by decide +kernel)]; exact ⟨rfl, rfl⟩))
    (fun os started H enc _ F => by rw [OpenClaim.pre_eq_preRow]; exact fetchShows_lifted os started H enc F)

theorem plain_shows (f : FuncId) (fn : Func) (hf : Tryz.pinned.checked.prog.funcNamed "cardbox/cardboxlaw26.FetchShows" = some f) (hfn : Tryz.pinned.checked.prog.funcs[f]? = some fn) :
    true = Tryz.pinned.checked.prog.looks [] ∧ ∀ (j : Nat) t, fn.params[j]? = some t → Tryz.pinned.checked.prog.wantsStandIn t = false := by
  obtain rfl : f = 4 := Option.some.inj ((show Tryz.prog.funcNamed "cardbox/cardboxlaw26.FetchShows" = some 4 by kernel_rfl).symm.trans hf) |>.symm
  obtain rfl : fn = Tryz.f4 := (Option.some.inj (Tryz.func4.symm.trans hfn)).symm
  refine ⟨by kernel_rfl, fun j t ht => ?_⟩
  rw [Tryz.params4] at ht
  have hm := Array.mem_of_getElem? ht
  simp only [Array.mem_def, List.mem_cons, List.not_mem_nil, or_false] at hm
  rcases hm with rfl | rfl
  · exact (show Tryz.prog.wantsStandIn 40 = false by kernel_rfl)
  · exact (show Tryz.prog.wantsStandIn 41 = false by kernel_rfl)

theorem fetchShows_holds : Rows.FetchShowsCardSaid :=
  Claim7.holds_tied_plain_at .later [] _ _ _ _ fetchShows_said (fun _ h => by cases h) (by kernel_rfl) (fun _ h => by cases h) fetchShows_row_tie rfl ⟨rfl, rfl⟩ (by kernel_rfl) rfl plain_shows (by kernel_rfl)

#print axioms fetchShows_holds
end Go.Proofs.YtanemojiaahbgaaGreatDoor
