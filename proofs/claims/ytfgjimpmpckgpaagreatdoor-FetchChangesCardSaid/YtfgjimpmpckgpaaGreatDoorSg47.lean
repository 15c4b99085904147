/- The law FetchChanges holds of every input: of whatever right account, Changes tells what the document says. No conditions. -/
import Derived.Test.YtfgjimpmpckgpaaGreatDoorCards
import Derived.Test.YtfgjimpmpckgpaaGreatDoorTie
import Derived.Test.YtfgjimpmpckgpaaGreatDoorSg00
import Derived.Test.YtfgjimpmpckgpaaGreatDoorSg16
import Derived.Test.YtfgjimpmpckgpaaGreatDoorSg46
import Derived.WalkKit
import Derived.ProofKit
import Derived.OpenShut
import Derived.Deep.DeepHandedRow
import Derived.Deep.DeepWitnessRowRef
import Derived.Lay
import Derived.Lib.SmallJoins
import Derived.ChangeMaps5
set_option linter.unusedSimpArgs false
set_option linter.unusedVariables false
set_option maxRecDepth 200000
set_option maxHeartbeats 8000000
namespace Go.Proofs.YtfgjimpmpckgpaaGreatDoor
section
open Go.Joins Go.ChangeShapes Go.WideShapes Go.ChangeAt Go.RowKit Go.Lib
theorem Tryz.own : ownKnob Tryz.prog.godebug = none := by kernel_rfl
theorem Tryz.laidOut : laidOutB Tryz.prog = true := by kernel_rfl
section
variable {H : Type} {P : Program}
theorem weights_at {R : Nat} : ∀ (ts : List TypeId) (ds : List (DataW H)) (i : Nat) (t : TypeId) (d : DataW H), ts[i]? = some t -> ds[i]? = some d -> (DataW.weightsEach P ts ds).all (· <= R) = true -> ∀ n ∈ d.weights P t, n <= R
 | [], _, i, t, d, h, _, _ => by simp at h
 | _ :: _, [], i, t, d, _, h, _ => by simp at h
 | t :: ts, e :: ds, 0, u, d, h1, h2, h => by
   simp only [List.getElem?_cons_zero, Option.some.injEq] at h1 h2
   subst h1 h2
   intro n hn
   simp only [DataW.weightsEach, List.all_append, Bool.and_eq_true, List.all_eq_true, decide_eq_true_eq] at h
   exact h.1 n hn
 | t :: ts, e :: ds, i + 1, u, d, h1, h2, h => by
   simp only [List.getElem?_cons_succ] at h1 h2
   simp only [DataW.weightsEach, List.all_append, Bool.and_eq_true] at h
   exact weights_at ts ds i u d h1 h2 h.2
end
def zeroArgsChgs : Array Value := #[.agg #[.string ⟨#[]⟩, .slice none 0 0, .slice none 0 0, .int .i64 0, .int .i64 0, .int .i64 0, .slice none 0 0, .slice none 0 0, .int .i64 0, .int .i64 0, .int .i64 0, .int .i64 0], .bool false, .bool false, .agg #[.int .i64 0, .int .i64 0, .string ⟨#[]⟩, .slice none 0 0, .slice none 0 0]]
noncomputable abbrev laidChgs (os : Os) : World := World.laidAll Tryz.prog os Rows.fetchChangesRow.laid
theorem laid_met_chgs (os : Os) : laidMet Tryz.prog Rows.fetchChangesRow.laid ((laidChgs os).forCall (fun _ _ => 0) ⟨#[], zeroArgsChgs, []⟩).memory :=
 laidMet_laidAll zeroArgsChgs (by kernel_rfl) (by kernel_rfl)
theorem reads_chgs (os : Os) {H : Type} (enc : TypeId × Value -> H) : ∃ ds places, DataW.whole enc Tryz.prog ((laidChgs os).forCall (fun _ _ => 0) ⟨#[], zeroArgsChgs, []⟩).memory Tryz.f3.params.toList Rows.fetchChangesSpec.vars false zeroArgsChgs.toList 8 = some (ds, [], places) :=
 ⟨[.agg [.lit (.string []), .agg [.nil, .nil, .lit (.int .i64 0), .lit (.int .i64 0), .lit (.int .i64 0)], .agg [.nil, .nil, .lit (.int .i64 0), .lit (.int .i64 0), .lit (.int .i64 0)], .lit (.int .i64 0)], .lit (.bool false), .lit (.bool false), .agg [.lit (.int .i64 0), .lit (.int .i64 0), .lit (.string []), .nil, .nil]], [], by kernel_rfl⟩
theorem contract_chgs (H : Type) (enc : TypeId × Value -> H) (W : World) (base : Nat) (args : Array Value) (ds gs : List (DataW H)) (before : List MemPlace)
 (hval : ∀ (j : Nat) t v, Tryz.f3.params[j]? = some t -> args[j]? = some v -> Value.okWide Tryz.prog W .any base t v)
 (hW : DataW.Whole enc Tryz.prog Tryz.f3.params.toList Rows.fetchChangesSpec.vars false W args.toList ds gs before)
 (hsz : (DataW.weightsEach Tryz.prog (Tryz.f3.params.toList ++ Rows.fetchChangesSpec.plain.varTypes Tryz.prog) (ds ++ gs)).all (· <= reachBytes) = true)
 (hL : laidMetH Tryz.prog Rows.fetchChangesRow.laid W) (hS : W.ShapedOpen Tryz.prog) :
 Calls Tryz.prog 3 args W fun e W' => ∃ v, e = .returned v /\ Rows.fetchChangesSpec.post enc Tryz.prog Tryz.f3 false true false false W args v W' := by
 have hW' := hW
 have hV : Vars W := vars_of (by kernel_rfl) (by kernel_rfl) hL hS
 obtain ⟨p, q, hA, hVr, rfl, hfz, hnd⟩ := hW
 obtain ⟨rfl, rfl⟩ := trodVars_none hVr
 rw [List.append_nil] at hsz
 have hA' : DataW.TrodAll enc Tryz.prog W 0 (fun _ => true) true Tryz.f3.params.toList args.toList ds p := hA
 rw [Tryz.params3] at hA' hval hsz
 obtain ⟨v0, v1, v2, v3, d0, d1, d2, d3, p0, p1, p2, p3, rfl, rfl, rfl, h0, h1, h2, h3⟩ := trodAll_four hA'
 obtain ⟨r0, a0, rfl, ha0, ok0⟩ := open_accountF (hval 0 27 v0 rfl rfl) h0
 obtain ⟨hid, oc, ob⟩ := ok0 (weights_at _ _ 0 27 _ rfl rfl hsz)
 obtain ⟨known, rfl, rfl, rfl⟩ := open_bool Tryz.underlying4 (hval 1 4 v1 rfl rfl) h1
 obtain ⟨book, rfl, rfl, rfl⟩ := open_bool Tryz.underlying4 (hval 2 4 v2 rfl rfl) h2
 obtain ⟨q3, t3, rfl, ht3, ok3⟩ := open_value (hval 3 31 v3 rfl rfl) h3
 have ot3 := ok3 (weights_at _ _ 3 31 _ rfl rfl hsz)
 refine (fetchChanges_any a0 r0 known book t3 q3 W hV ha0 hid oc ob ht3 ot3).mono fun e W' ⟨he, hb⟩ => ?_
 exact ⟨_, he, law_post rfl (fun ds h => by obtain ⟨a, b, c, d, rfl⟩ := len4 h; rfl) rfl Tryz.underlying4 Tryz.laidOut (of_decide_eq_true (by kernel_rfl)) hW' hb⟩
theorem fetchChanges_lifted (os : Os) (started : os.Started) (H : Type) (enc : TypeId × Value -> H) (F : Stop.Interp) :
 ReturnsInHanded {} Tryz.checked os 3 .any ((OpenSpec.ofChange Rows.fetchChangesSpec).preRow enc Tryz.prog Tryz.f3 Rows.fetchChangesRow.domain false Rows.fetchChangesRow.laid) (((OpenSpec.ofChange Rows.fetchChangesSpec).at F).post enc Tryz.prog Tryz.f3 false true false false) := by
 obtain ⟨ds, places, hx⟩ := reads_chgs os enc
 refine returnsInHanded_of_row (C := Tryz.checked) (s := OpenSpec.ofChange Rows.fetchChangesSpec) Tryz.own started (by kernel_rfl) Tryz.func3
  (witness_row_atRef (enc := enc) (C := Tryz.checked) false (laidChgs os) zeroArgsChgs (World.laidAll_os _ _ _) (by kernel_rfl) (by kernel_rfl) (by kernel_rfl)
   (OpenSpec.preRow_of_cond 8 hx (by kernel_rfl) (fun k hk => by cases hk) (by kernel_rfl) (laid_met_chgs os))) ?_
 intro W base args ds gs before hval hW _ _ hsz hL hS _
 exact contract_chgs H enc W base args ds gs before hval hW hsz hL hS
theorem fetchChanges_said : Rows.FetchChangesSaid :=
 OpenClaim.holds_of_cond 3 Tryz.f3 rfl rfl rfl rfl rfl rfl rfl ⟨rfl, rfl, rfl, rfl, rfl⟩ rfl rfl rfl rfl rfl (by kernel_rfl) Tryz.func3 (by kernel_rfl)
  (of_decide_eq_true (by kernel_rfl)) (by unfold Func.isWrapper; first | (rw [if_pos (by decide +kernel)]; kernel_rfl) | (rw [if_neg (by decide +kernel)]; exact ⟨rfl, rfl⟩))
  (fun os started H enc _ F => by rw [OpenClaim.pre_eq_preRow]; exact fetchChanges_lifted os started H enc F)
theorem plain_chgs (f : FuncId) (fn : Func) (hf : Tryz.pinned.checked.prog.funcNamed "cardbox/cardboxlaw26.FetchChanges" = some f) (hfn : Tryz.pinned.checked.prog.funcs[f]? = some fn) :
 true = Tryz.pinned.checked.prog.looks [] /\ ∀ (j : Nat) t, fn.params[j]? = some t -> Tryz.pinned.checked.prog.wantsStandIn t = false := by
 obtain rfl : f = 3 := Option.some.inj ((show Tryz.prog.funcNamed "cardbox/cardboxlaw26.FetchChanges" = some 3 by kernel_rfl).symm.trans hf) |>.symm
 obtain rfl : fn = Tryz.f3 := (Option.some.inj (Tryz.func3.symm.trans hfn)).symm
 refine ⟨by kernel_rfl, fun j t ht => ?_⟩
 rw [Tryz.params3] at ht
 have hm := Array.mem_of_getElem? ht
 simp only [Array.mem_def, List.mem_cons, List.not_mem_nil, or_false] at hm
 rcases hm with rfl | rfl | rfl | rfl
 ·exact (show Tryz.prog.wantsStandIn 27 = false by kernel_rfl)
 ·exact (show Tryz.prog.wantsStandIn 4 = false by kernel_rfl)
 ·exact (show Tryz.prog.wantsStandIn 4 = false by kernel_rfl)
 ·exact (show Tryz.prog.wantsStandIn 31 = false by kernel_rfl)
theorem fetchChanges_holds : Rows.FetchChangesCardSaid :=
 Claim7.holds_tied_plain_at .later [] _ _ _ _ fetchChanges_said (fun _ h => by cases h) (by kernel_rfl) (fun _ h => by cases h) fetchChanges_row_tie rfl ⟨rfl, rfl⟩ (by kernel_rfl) rfl plain_chgs (by kernel_rfl)
#print axioms fetchChanges_holds
end
end Go.Proofs.YtfgjimpmpckgpaaGreatDoor
