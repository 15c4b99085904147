/- For every input, the law SieveTurned (cardboxlaw20) answers true, and what is handed in reads as it did; the conditions are those of the given card. -/
import Derived.Test.YtffhccmppdgmfaaGreatDoorCards
import Derived.Test.YtffhccmppdgmfaaGreatDoorTie
import Derived.Test.YtffhccmppdgmfaaGreatDoorG00
import Derived.Test.YtffhccmppdgmfaaGreatDoorG13
import Derived.Test.YtffhccmppdgmfaaGreatDoorG23
import Derived.Test.YtffhccmppdgmfaaGreatDoorG22
import Derived.WalkKit
import Derived.ProofKit
import Derived.OpenShut
import Derived.Deep.DeepHandedRow
import Derived.Deep.DeepWitnessRowRef
import Derived.Lay
import Derived.Lib.SmallJoins
import Derived.ChangeMaps5
set_option linter.unusedSimpArgs false
set_option linter.unusedVariables false
set_option maxRecDepth 200000
set_option maxHeartbeats 8000000
namespace Go.Proofs.YtffhccmppdgmfaaGreatDoor
section
open Go.Joins Go.ChangeShapes Go.WideShapes Go.ChangeAt Go.RowKit Go.Lib
theorem Tryz.own : ownKnob Tryz.prog.godebug = none := by kernel_rfl
theorem Tryz.laidOut : laidOutB Tryz.prog = true := by kernel_rfl
section
variable {H : Type} {P : Program}
theorem weights_at {R : Nat} : ∀ (ts : List TypeId) (ds : List (DataW H)) (i : Nat) (t : TypeId) (d : DataW H), ts[i]? = some t -> ds[i]? = some d -> (DataW.weightsEach P ts ds).all (· <= R) = true -> ∀ n ∈ d.weights P t, n <= R
 | [], _, i, t, d, h, _, _ => by simp at h
 | _ :: _, [], i, t, d, _, h, _ => by simp at h
 | t :: ts, e :: ds, 0, u, d, h1, h2, h => by
   simp only [List.getElem?_cons_zero, Option.some.injEq] at h1 h2
   subst h1 h2
   intro n hn
   simp only [DataW.weightsEach, List.all_append, Bool.and_eq_true, List.all_eq_true, decide_eq_true_eq] at h
   exact h.1 n hn
 | t :: ts, e :: ds, i + 1, u, d, h1, h2, h => by
   simp only [List.getElem?_cons_succ] at h1 h2
   simp only [DataW.weightsEach, List.all_append, Bool.and_eq_true] at h
   exact weights_at ts ds i u d h1 h2 h.2
end
def zeroArgsC : Array Value := #[.agg #[.int .i64 0, .int .i64 0, .string ⟨#[]⟩, .slice none 0 0, .slice none 0 0], .agg #[.int .i64 0, .int .i64 0, .string ⟨#[]⟩, .slice none 0 0, .slice none 0 0], .slice none 0 0]
noncomputable abbrev laidC (os : Os) : World := World.laidAll Tryz.prog os Rows.sieveTurnedRow.laid
theorem laid_metC (os : Os) : laidMet Tryz.prog Rows.sieveTurnedRow.laid ((laidC os).forCall (fun _ _ => 0) ⟨#[], zeroArgsC, []⟩).memory :=
 laidMet_laidAll zeroArgsC (by kernel_rfl) (by kernel_rfl)
theorem readsC (os : Os) {H : Type} (enc : TypeId × Value -> H) : ∃ ds places, DataW.whole enc Tryz.prog ((laidC os).forCall (fun _ _ => 0) ⟨#[], zeroArgsC, []⟩).memory Tryz.f10.params.toList Rows.sieveTurnedSpec.vars false zeroArgsC.toList 8 = some (ds, [], places) :=
 ⟨[.agg [.lit (.int .i64 0), .lit (.int .i64 0), .lit (.string []), .nil, .nil], .agg [.lit (.int .i64 0), .lit (.int .i64 0), .lit (.string []), .nil, .nil], .nil], [], by kernel_rfl⟩
theorem contractC (H : Type) (enc : TypeId × Value -> H) (W : World) (base : Nat) (args : Array Value) (ds gs : List (DataW H)) (before : List MemPlace)
 (hval : ∀ (j : Nat) t v, Tryz.f10.params[j]? = some t -> args[j]? = some v -> Value.okWide Tryz.prog W .any base t v)
 (hW : DataW.Whole enc Tryz.prog Tryz.f10.params.toList Rows.sieveTurnedSpec.vars false W args.toList ds gs before)
 (hsz : (DataW.weightsEach Tryz.prog (Tryz.f10.params.toList ++ Rows.sieveTurnedSpec.plain.varTypes Tryz.prog) (ds ++ gs)).all (· <= reachBytes) = true)
 (hL : laidMetH Tryz.prog Rows.sieveTurnedRow.laid W) (hS : W.ShapedOpen Tryz.prog) :
 Calls Tryz.prog 10 args W fun e W' => ∃ v, e = .returned v /\ Rows.sieveTurnedSpec.post enc Tryz.prog Tryz.f10 false true false false W args v W' := by
 have hW' := hW
 have hAll : AllAt W := all_of (by kernel_rfl) (by kernel_rfl) hL
 have hMax : MaxAt W := max_of hS
 obtain ⟨p, q, hA, hVr, rfl, hfz, hnd⟩ := hW
 obtain ⟨rfl, rfl⟩ := trodVars_none hVr
 rw [List.append_nil] at hsz
 have hA' : DataW.TrodAll enc Tryz.prog W 0 (fun _ => true) true Tryz.f10.params.toList args.toList ds p := hA
 rw [Tryz.params10] at hA' hval hsz
 obtain ⟨v0, v1, v2, d0, d1, d2, p0, p1, p2, rfl, rfl, rfl, h0, h1, h2⟩ := trodAll_three hA'
 obtain ⟨r0, t0, rfl, ht0, ok0⟩ := open_value (hval 0 25 v0 rfl rfl) h0
 have ot0 := ok0 (weights_at _ _ 0 25 _ rfl rfl hsz)
 obtain ⟨r1, t1, rfl, ht1, ok1⟩ := open_value (hval 1 25 v1 rfl rfl) h1
 have ot1 := ok1 (weights_at _ _ 1 25 _ rfl rfl hsz)
 obtain ⟨q2, n2, c2, l2, rfl, hl2⟩ := open_intsC (hval 2 57 v2 rfl rfl) h2
 refine (sieveTurned_any t0 t1 r0 r1 q2 n2 c2 l2 W ht0 ot0 ht1 ot1 hl2 hAll hMax).mono fun e W' ⟨he, hb⟩ => ?_
 exact ⟨_, he, law_post rfl (fun ds h => by obtain ⟨a, b, c, rfl⟩ := len3 h; rfl) rfl Tryz.underlying4 Tryz.laidOut (of_decide_eq_true (by kernel_rfl)) hW' hb⟩
theorem sieveTurned_lifted (os : Os) (started : os.Started) (H : Type) (enc : TypeId × Value -> H) (F : Stop.Interp) :
 ReturnsInHanded {} Tryz.checked os 10 .any ((OpenSpec.ofChange Rows.sieveTurnedSpec).preRow enc Tryz.prog Tryz.f10 Rows.sieveTurnedRow.domain false Rows.sieveTurnedRow.laid) (((OpenSpec.ofChange Rows.sieveTurnedSpec).at F).post enc Tryz.prog Tryz.f10 false true false false) := by
 obtain ⟨ds, places, hx⟩ := readsC os enc
 refine returnsInHanded_of_row (C := Tryz.checked) (s := OpenSpec.ofChange Rows.sieveTurnedSpec) Tryz.own started (by kernel_rfl) Tryz.func10
  (witness_row_atRef (enc := enc) (C := Tryz.checked) false (laidC os) zeroArgsC (World.laidAll_os _ _ _) (by kernel_rfl) (by kernel_rfl) (by kernel_rfl)
   (OpenSpec.preRow_of_cond 8 hx (by kernel_rfl) (fun k hk => by cases hk) (by kernel_rfl) (laid_metC os))) ?_
 intro W base args ds gs before hval hW _ _ hsz hL hS _
 exact contractC H enc W base args ds gs before hval hW hsz hL hS
theorem sieveTurned_said : Rows.SieveTurnedSaid :=
 OpenClaim.holds_of_cond 10 Tryz.f10 rfl rfl rfl rfl rfl rfl rfl ⟨rfl, rfl, rfl, rfl, rfl⟩ rfl rfl rfl rfl rfl (by kernel_rfl) Tryz.func10 (by kernel_rfl)
  (of_decide_eq_true (by kernel_rfl)) (by unfold Func.isWrapper; first | (rw [if_pos (by decide +kernel)]; kernel_rfl) | (rw [if_neg (by decide +kernel)]; exact ⟨rfl, rfl⟩))
  (fun os started H enc _ F => by rw [OpenClaim.pre_eq_preRow]; exact sieveTurned_lifted os started H enc F)
theorem plainC (f : FuncId) (fn : Func) (hf : Tryz.pinned.checked.prog.funcNamed "cardbox/cardboxlaw20.SieveTurned" = some f) (hfn : Tryz.pinned.checked.prog.funcs[f]? = some fn) :
 true = Tryz.pinned.checked.prog.looks [] /\ ∀ (j : Nat) t, fn.params[j]? = some t -> Tryz.pinned.checked.prog.wantsStandIn t = false := by
 obtain rfl : f = 10 := Option.some.inj ((show Tryz.prog.funcNamed "cardbox/cardboxlaw20.SieveTurned" = some 10 by kernel_rfl).symm.trans hf) |>.symm
 obtain rfl : fn = Tryz.f10 := (Option.some.inj (Tryz.func10.symm.trans hfn)).symm
 refine ⟨by kernel_rfl, fun j t ht => ?_⟩
 rw [Tryz.params10] at ht
 have hm := Array.mem_of_getElem? ht
 simp only [Array.mem_def, List.mem_cons, List.not_mem_nil, or_false] at hm
 rcases hm with rfl | rfl | rfl
 ·exact (show Tryz.prog.wantsStandIn 25 = false by kernel_rfl)
 ·exact (show Tryz.prog.wantsStandIn 25 = false by kernel_rfl)
 ·exact (show Tryz.prog.wantsStandIn 57 = false by kernel_rfl)
theorem sieveTurned_holds : Rows.SieveTurnedCardSaid :=
 Claim7.holds_tied_plain_at .later [] _ _ _ _ sieveTurned_said (fun _ h => by cases h) (by kernel_rfl) (fun _ h => by cases h) sieveTurned_row_tie rfl ⟨rfl, rfl⟩ (by kernel_rfl) rfl plainC (by kernel_rfl)
#print axioms sieveTurned_holds
end
end Go.Proofs.YtffhccmppdgmfaaGreatDoor
