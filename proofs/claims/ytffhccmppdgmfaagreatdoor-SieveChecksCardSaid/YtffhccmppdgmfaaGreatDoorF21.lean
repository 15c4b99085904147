/- For every input, the law SieveChecks (cardboxlaw20) answers true, and what is handed in reads as it did; the conditions are those of the given card. -/
import Derived.Test.YtffhccmppdgmfaaGreatDoorCards
import Derived.Test.YtffhccmppdgmfaaGreatDoorTie
import Derived.Test.YtffhccmppdgmfaaGreatDoorF00
import Derived.Test.YtffhccmppdgmfaaGreatDoorF13
import Derived.Test.YtffhccmppdgmfaaGreatDoorF20
import Derived.WalkKit
import Derived.ProofKit
import Derived.OpenShut
import Derived.Deep.DeepHandedRow
import Derived.Deep.DeepWitnessRowRef
import Derived.Lay
import Derived.Lib.SmallJoins
import Derived.ChangeMaps5
set_option linter.unusedSimpArgs false
set_option linter.unusedVariables false
set_option maxRecDepth 200000
set_option maxHeartbeats 8000000
namespace Go.Proofs.YtffhccmppdgmfaaGreatDoor
section
open Go.Joins Go.ChangeShapes Go.WideShapes Go.ChangeAt Go.RowKit Go.Lib
theorem Tryz.own : ownKnob Tryz.prog.godebug = none := by kernel_rfl
theorem Tryz.laidOut : laidOutB Tryz.prog = true := by kernel_rfl
section
variable {H : Type} {P : Program}
theorem weights_at {R : Nat} : ∀ (ts : List TypeId) (ds : List (DataW H)) (i : Nat) (t : TypeId) (d : DataW H), ts[i]? = some t -> ds[i]? = some d -> (DataW.weightsEach P ts ds).all (· <= R) = true -> ∀ n ∈ d.weights P t, n <= R
 | [], _, i, t, d, h, _, _ => by simp at h
 | _ :: _, [], i, t, d, _, h, _ => by simp at h
 | t :: ts, e :: ds, 0, u, d, h1, h2, h => by
   simp only [List.getElem?_cons_zero, Option.some.injEq] at h1 h2
   subst h1 h2
   intro n hn
   simp only [DataW.weightsEach, List.all_append, Bool.and_eq_true, List.all_eq_true, decide_eq_true_eq] at h
   exact h.1 n hn
 | t :: ts, e :: ds, i + 1, u, d, h1, h2, h => by
   simp only [List.getElem?_cons_succ] at h1 h2
   simp only [DataW.weightsEach, List.all_append, Bool.and_eq_true] at h
   exact weights_at ts ds i u d h1 h2 h.2
end
def zeroArgsC : Array Value := #[.agg #[.int .i64 0, .int .i64 0, .string ⟨#[]⟩, .slice none 0 0, .slice none 0 0]]
noncomputable abbrev laidC (os : Os) : World := World.laidAll Tryz.prog os Rows.sieveChecksRow.laid
theorem laid_metC (os : Os) : laidMet Tryz.prog Rows.sieveChecksRow.laid ((laidC os).forCall (fun _ _ => 0) ⟨#[], zeroArgsC, []⟩).memory :=
 laidMet_laidAll zeroArgsC (by kernel_rfl) (by kernel_rfl)
theorem readsC (os : Os) {H : Type} (enc : TypeId × Value -> H) : ∃ ds places, DataW.whole enc Tryz.prog ((laidC os).forCall (fun _ _ => 0) ⟨#[], zeroArgsC, []⟩).memory Tryz.f4.params.toList Rows.sieveChecksSpec.vars false zeroArgsC.toList 8 = some (ds, [], places) :=
 ⟨[.agg [.lit (.int .i64 0), .lit (.int .i64 0), .lit (.string []), .nil, .nil]], [], by kernel_rfl⟩
theorem contractC (H : Type) (enc : TypeId × Value -> H) (W : World) (base : Nat) (args : Array Value) (ds gs : List (DataW H)) (before : List MemPlace)
 (hval : ∀ (j : Nat) t v, Tryz.f4.params[j]? = some t -> args[j]? = some v -> Value.okWide Tryz.prog W .any base t v)
 (hW : DataW.Whole enc Tryz.prog Tryz.f4.params.toList Rows.sieveChecksSpec.vars false W args.toList ds gs before)
 (hsz : (DataW.weightsEach Tryz.prog (Tryz.f4.params.toList ++ Rows.sieveChecksSpec.plain.varTypes Tryz.prog) (ds ++ gs)).all (· <= reachBytes) = true)
 (hL : laidMetH Tryz.prog Rows.sieveChecksRow.laid W) (hS : W.ShapedOpen Tryz.prog) :
 Calls Tryz.prog 4 args W fun e W' => ∃ v, e = .returned v /\ Rows.sieveChecksSpec.post enc Tryz.prog Tryz.f4 false true false false W args v W' := by
 have hW' := hW
 have hAll : AllAt W := all_of (by kernel_rfl) (by kernel_rfl) hL
 have hMax : MaxAt W := max_of hS
 obtain ⟨p, q, hA, hVr, rfl, hfz, hnd⟩ := hW
 obtain ⟨rfl, rfl⟩ := trodVars_none hVr
 rw [List.append_nil] at hsz
 have hA' : DataW.TrodAll enc Tryz.prog W 0 (fun _ => true) true Tryz.f4.params.toList args.toList ds p := hA
 rw [Tryz.params4] at hA' hval hsz
 obtain ⟨v0, d0, rfl, rfl, h0⟩ := trodAll_one hA'
 obtain ⟨r0, t0, rfl, ht0, ok0⟩ := open_value (hval 0 25 v0 rfl rfl) h0
 have ot0 := ok0 (weights_at _ _ 0 25 _ rfl rfl hsz)
 refine (sieveChecks_any t0 r0 W ht0 ot0 hAll hMax).mono fun e W' ⟨he, hb⟩ => ?_
 exact ⟨_, he, law_post rfl (fun ds h => by obtain ⟨a, rfl⟩ := len1 h; rfl) rfl Tryz.underlying4 Tryz.laidOut (of_decide_eq_true (by kernel_rfl)) hW' hb⟩
theorem sieveChecks_lifted (os : Os) (started : os.Started) (H : Type) (enc : TypeId × Value -> H) (F : Stop.Interp) :
 ReturnsInHanded {} Tryz.checked os 4 .any ((OpenSpec.ofChange Rows.sieveChecksSpec).preRow enc Tryz.prog Tryz.f4 Rows.sieveChecksRow.domain false Rows.sieveChecksRow.laid) (((OpenSpec.ofChange Rows.sieveChecksSpec).at F).post enc Tryz.prog Tryz.f4 false true false false) := by
 obtain ⟨ds, places, hx⟩ := readsC os enc
 refine returnsInHanded_of_row (C := Tryz.checked) (s := OpenSpec.ofChange Rows.sieveChecksSpec) Tryz.own started (by kernel_rfl) Tryz.func4
  (witness_row_atRef (enc := enc) (C := Tryz.checked) false (laidC os) zeroArgsC (World.laidAll_os _ _ _) (by kernel_rfl) (by kernel_rfl) (by kernel_rfl)
   (OpenSpec.preRow_of_cond 8 hx (by kernel_rfl) (fun k hk => by cases hk) (by kernel_rfl) (laid_metC os))) ?_
 intro W base args ds gs before hval hW _ _ hsz hL hS _
 exact contractC H enc W base args ds gs before hval hW hsz hL hS
theorem sieveChecks_said : Rows.SieveChecksSaid :=
 OpenClaim.holds_of_cond 4 Tryz.f4 rfl rfl rfl rfl rfl rfl rfl ⟨rfl, rfl, rfl, rfl, rfl⟩ rfl rfl rfl rfl rfl (by kernel_rfl) Tryz.func4 (by kernel_rfl)
  (of_decide_eq_true (by kernel_rfl)) (by unfold Func.isWrapper; first | (rw [if_pos (by decide +kernel)]; kernel_rfl) | (rw [if_neg (by decide +kernel)]; exact ⟨rfl, rfl⟩))
  (fun os started H enc _ F => by rw [OpenClaim.pre_eq_preRow]; exact sieveChecks_lifted os started H enc F)
theorem plainC (f : FuncId) (fn : Func) (hf : Tryz.pinned.checked.prog.funcNamed "cardbox/cardboxlaw20.SieveChecks" = some f) (hfn : Tryz.pinned.checked.prog.funcs[f]? = some fn) :
 true = Tryz.pinned.checked.prog.looks [] /\ ∀ (j : Nat) t, fn.params[j]? = some t -> Tryz.pinned.checked.prog.wantsStandIn t = false := by
 obtain rfl : f = 4 := Option.some.inj ((show Tryz.prog.funcNamed "cardbox/cardboxlaw20.SieveChecks" = some 4 by kernel_rfl).symm.trans hf) |>.symm
 obtain rfl : fn = Tryz.f4 := (Option.some.inj (Tryz.func4.symm.trans hfn)).symm
 refine ⟨by kernel_rfl, fun j t ht => ?_⟩
 rw [Tryz.params4] at ht
 have hm := Array.mem_of_getElem? ht
 simp only [Array.mem_def, List.mem_cons, List.not_mem_nil, or_false] at hm
 rcases hm with rfl
 exact (show Tryz.prog.wantsStandIn 25 = false by kernel_rfl)
theorem sieveChecks_holds : Rows.SieveChecksCardSaid :=
 Claim7.holds_tied_plain_at .later [] _ _ _ _ sieveChecks_said (fun _ h => by cases h) (by kernel_rfl) (fun _ h => by cases h) sieveChecks_row_tie rfl ⟨rfl, rfl⟩ (by kernel_rfl) rfl plainC (by kernel_rfl)
#print axioms sieveChecks_holds
end
end Go.Proofs.YtffhccmppdgmfaaGreatDoor
