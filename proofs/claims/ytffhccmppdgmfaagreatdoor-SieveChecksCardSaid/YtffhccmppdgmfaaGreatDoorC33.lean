import Derived.Test.YtffhccmppdgmfaaGreatDoorC28
import Derived.Test.YtffhccmppdgmfaaGreatDoorC29
import Derived.Test.YtffhccmppdgmfaaGreatDoorC32
set_option linter.unusedSimpArgs false
set_option linter.unusedVariables false
set_option maxRecDepth 200000
set_option maxHeartbeats 8000000
namespace Go.Proofs.YtffhccmppdgmfaaGreatDoor
section
open Go Go.RowKit Go.OpenShut
theorem sieveChecks_any (t : JV) (r : RV) (w : World) (ht : TreeOf w w.heap.size t r) (ot : t.Ok) (hall : AllAt w) (hmax : MaxAt w) :
 Calls Tryz.prog 4 #[r.val] w fun e w' => e = .returned (.bool true) /\ Below w.heap.size w w' := by
 have hA0 : VAt (w.alloc (.cells #[.int .i64 r.k, .int .i64 r.n, .string r.s, .slice r.pl r.nl r.cl, .slice r.pm r.nm r.cm] 25)) w.heap.size r := heap_alloc_at rfl
 have hB0 : Below w.heap.size w (w.alloc (.cells #[.int .i64 r.k, .int .i64 r.n, .string r.s, .slice r.pl r.nl r.cl, .slice r.pm r.nm r.cm] 25)) := (Below.refl _ _).alloc (Nat.le_refl _) _
 have HAW : Hid (∀ W, Below w.heap.size w W -> Calls Tryz.prog 17 #[] W fun e w' => e = .returned (.bool true) /\ Below W.heap.size W w') := fun W hb => awake20_any W (hall.below hb) (hmax.below hb)
 have HF : Hid (∀ W, Below w.heap.size w W -> Calls Tryz.prog 18 #[r.val, .int .i64 1500] W (SomeC t r.nm 1500 W)) := fun W hb => few7c_any t r 1500 W (by decide) (ht.under hb hb.size) ot
 have HC : Hid (countT t <= 1500 -> ∀ W, Below w.heap.size w W -> Calls Tryz.prog 19 #[r.val] W fun e w' => e = .returned (.int .i64 (checkJ t)) /\ Below W.heap.size W w') := fun hc W hb => svCheck_any t r W w.heap.size hb.size (ht.under hb (Nat.le_refl _)) ot (by omega) (hall.below hb)
 have HD : Hid (∀ W, Below w.heap.size w W -> Calls Tryz.prog 20 #[r.val] W fun e w' => e = .returned (.int .i64 (checkJ t)) /\ Below W.heap.size W w') := fun W hb => rCheck_any t r W w.heap.size hb.size (ht.under hb (Nat.le_refl _)) ot
 obtain ⟨E, hE⟩ : ∃ E, checkJ t = E := ⟨_, rfl⟩
 rw [hE] at HC HD
 clear ht hE ot hall hmax
 go_enter Tryz.func4, Tryz.ntmps4
 go_upto_region 1 with fail
 obtain ⟨W0, hW0⟩ : ∃ W0, (w.alloc (.cells #[.int .i64 r.k, .int .i64 r.n, .string r.s, .slice r.pl r.nl r.cl, .slice r.pm r.nm r.cm] 25)) = W0 := ⟨_, rfl⟩
 rw [hW0] at hA0 hB0 ⊢
 clear hW0
 have hz := hA0.lt
 obtain ⟨c0, c1, c2, c3, c4⟩ := hA0.cells5
 clear hA0
 go_wp2_with (first
  | (go_at_call 17; (first
   | ((with_reducible refine (HAW.out _ hb2).mono ?_); rintro e w3 ⟨rfl, hbA3⟩; (have hb3 := hb2.trans (hbA3.mono hb2.size)))
   | ((with_reducible refine (HAW.out _ hB0).mono ?_); rintro e w1 ⟨rfl, hbA⟩; (have hb1 := hB0.trans (hbA.mono hB0.size)); (have d0 := bcs hbA hz c0); (have d1 := bcs hbA hz c1); (have d2 := bcs hbA hz c2); (have d3 := bcs hbA hz c3); (have d4 := bcs hbA hz c4))))
  | (go_at_call 18; refine (HF.out _ hb1).mono ?_; rintro e w2 ⟨b1, rfl, hL, hbB⟩; (have hb2 := hb1.trans (hbB.mono hb1.size)); (have hz1 := Nat.lt_of_lt_of_le hz hbA.size); (have e0 := bcs hbB hz1 d0); (have e1 := bcs hbB hz1 d1); (have e2 := bcs hbB hz1 d2); (have e3 := bcs hbB hz1 d3); (have e4 := bcs hbB hz1 d4); cases b1))
 ·go_ret
  exact ⟨rfl, hb3⟩
 have HC2 := Lib.hid (HC.out (hL.out (by trivial)).2.2)
 clear HC
 go_region_with (first
  | (go_at_call 19; refine (HC2.out _ hb2.drew).mono ?_; rintro e w3 ⟨rfl, hbC⟩; (have hb3 := hb2.drew.trans (hbC.mono hb2.drew.size)); (have hz2 := Nat.lt_of_lt_of_le hz1 hbB.size); (have f0 := bcs hbC hz2 e0); (have f1 := bcs hbC hz2 e1); (have f2 := bcs hbC hz2 e2); (have f3 := bcs hbC hz2 e3); (have f4 := bcs hbC hz2 e4))
  | (go_at_call 20; refine (HD.out _ hb3).mono ?_; rintro e w4 ⟨rfl, hbD⟩; (have hb4 := hb3.trans (hbD.mono hb3.size))))
 all_goals (go_wp2_with fail; go_ret; exact ⟨rfl, hb4⟩)
end
end Go.Proofs.YtffhccmppdgmfaaGreatDoor
