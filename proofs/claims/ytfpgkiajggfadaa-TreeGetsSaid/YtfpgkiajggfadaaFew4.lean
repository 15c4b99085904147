/- Whether there are few values: some truth is told. -/
import Derived.Test.YtfpgkiajggfadaaFew3
set_option linter.unusedSimpArgs false
set_option linter.unusedVariables false
namespace Go.Proofs.Ytfpgkiajggfadaa
open Go.RowKit Go.OpenShut

/-- Some truth is told; if it is 'true' there are few members. -/
def SomeF (n : Nat) (w : World) (e : Ending) (w' : World) : Prop := ∃ b : Bool, e = .returned (.bool b) ∧ Hid (b = true → n ≤ 10000) ∧ Below w.heap.size w w'
set_option maxRecDepth 100000 in
set_option maxHeartbeats 2000000 in
theorem deep7_any (t : JV) (r : RV) (w : World) (ht : TreeOf w w.heap.size t r) (ot : t.Ok) :
    Calls Try.prog 44 #[r.val, .int .i64 100] w (SomeF r.nm w) := by
  obtain ⟨rs, rms, hl, el, hT, bl, hm, em, hTM, bm⟩ := ht.opened ot
  obtain ⟨k, n, s, pl, nl, cl, pm, nm, cm⟩ := r
  dsimp only [RV.val] at *
  have hA0 : VAt (w.alloc (.cells #[.int .i64 k, .int .i64 n, .string s, .slice pl nl cl, .slice pm nm cm] 45)) w.heap.size ⟨k, n, s, pl, nl, cl, pm, nm, cm⟩ := heap_alloc_at rfl
  have hB0 : Below w.heap.size w (w.alloc (.cells #[.int .i64 k, .int .i64 n, .string s, .slice pl nl cl, .slice pm nm cm] 45)) := (Below.refl _ _).alloc (Nat.le_refl _) _
  have HT := Lib.hid ht
  clear hl hT hm hTM el em ht
  go_enter Try.func44, Try.ntmps44
  go_upto_region 1 with fail
  obtain ⟨W0, hW0⟩ : ∃ W0, (w.alloc (.cells #[.int .i64 k, .int .i64 n, .string s, .slice pl nl cl, .slice pm nm cm] 45)) = W0 := ⟨_, rfl⟩
  rw [hW0] at hA0 hB0 ⊢
  clear hW0
  have hz := hA0.lt
  have c0 := hA0.cell 0 rfl
  have c1 := hA0.cell 1 rfl
  have c2 := hA0.cell 2 rfl
  have c3 := hA0.cell 3 rfl
  have c4 := hA0.cell 4 rfl
  dsimp only at c0 c1 c2 c3 c4
  clear hA0
  have HC : Hid (Calls Try.prog 59 #[.slice (some ⟨W0.heap.size, 0, none⟩) 1 1, .int .i64 100] (W0.alloc (.cells #[.int .i64 k, .int .i64 n, .string s, .slice pl nl cl, .slice pm nm cm] 45)) (SomeB (W0.alloc (.cells #[.int .i64 k, .int .i64 n, .string s, .slice pl nl cl, .slice pm nm cm] 45)))) :=
    level7_any _ 100 _ 1 1 [⟨k, n, s, pl, nl, cl, pm, nm, cm⟩] _ (W0.heap.size + 1) rfl (by decide) (by simp) (Rd.one codecV (heap_alloc_new _ _) rfl (by omega)) (TreesV.one ot (HT.out.under (hB0.alloc hB0.size _) (by have := hB0.size; omega))) (by decide)
  by_cases h1 : nl ≤ 10000
  · by_cases h2 : nm ≤ 10000
    · have hnm : Hid (∀ b : Bool, b = true → nm ≤ 10000) := fun _ _ => h2
      go_wp2_with (go_at_call 59; refine HC.out.mono ?_; rintro e w1 ⟨b, rfl, hb1'⟩)
      all_goals go_ret
      all_goals exact ⟨_, rfl, hnm.out _, (hB0.alloc hB0.size _).trans (hb1'.mono (by have := hB0.size; simp; omega))⟩
    · go_wp2_with fail
      go_ret
      exact ⟨false, rfl, (fun h => by cases h), hB0⟩
  · go_wp2_with fail
    go_ret
    exact ⟨false, rfl, (fun h => by cases h), hB0⟩

set_option maxRecDepth 100000 in
set_option maxHeartbeats 2000000 in
theorem few7_any (t : JV) (r : RV) (most : Int) (w : World) (ht : TreeOf w w.heap.size t r) (ot : t.Ok) :
    Calls Try.prog 24 #[r.val, .int .i64 most] w (SomeF r.nm w) := by
  have HT := Lib.hid ht
  have hA0 : VAt (w.alloc (.cells #[.int .i64 r.k, .int .i64 r.n, .string r.s, .slice r.pl r.nl r.cl, .slice r.pm r.nm r.cm] 45)) w.heap.size r := heap_alloc_at rfl
  have hB0 : Below w.heap.size w (w.alloc (.cells #[.int .i64 r.k, .int .i64 r.n, .string r.s, .slice r.pl r.nl r.cl, .slice r.pm r.nm r.cm] 45)) := (Below.refl _ _).alloc (Nat.le_refl _) _
  clear ht
  go_enter Try.func24, Try.ntmps24
  go_upto_region 1 with fail
  obtain ⟨W0, hW0⟩ : ∃ W0, (w.alloc (.cells #[.int .i64 r.k, .int .i64 r.n, .string r.s, .slice r.pl r.nl r.cl, .slice r.pm r.nm r.cm] 45)) = W0 := ⟨_, rfl⟩
  rw [hW0] at hA0 hB0 ⊢
  clear hW0
  have hz := hA0.lt
  have c0 := hA0.cell 0 rfl
  have c1 := hA0.cell 1 rfl
  have c2 := hA0.cell 2 rfl
  have c3 := hA0.cell 3 rfl
  have c4 := hA0.cell 4 rfl
  clear hA0
  have HD : Hid (∀ W, Below w.heap.size w W → Calls Try.prog 44 #[r.val, .int .i64 100] W (SomeF r.nm W)) := fun W hb => deep7_any t r W (HT.out.under hb hb.size) ot
  have HN : Hid (∀ W, Below w.heap.size w W → Calls Try.prog 45 #[r.val, .int .i64 most] W (SomeI W)) := fun W hb => count7_any _ t r most W (Nat.le_refl _) (HT.out.under hb hb.size) ot
  have HO : Hid (∀ W, Below w.heap.size w W → Calls Try.prog 46 #[r.val] W (SomeB W)) := fun W hb => own7_any _ t r W (Nat.le_refl _) (HT.out.under hb hb.size) ot
  go_wp2_with (first
    | (go_at_call 44; refine (HD.out _ hB0).mono ?_; rintro e w1 ⟨b1, rfl, hbL, hbA⟩; (have hb1 := hB0.trans (hbA.mono hB0.size)); (have d0 := bcs hbA hz c0); (have d1 := bcs hbA hz c1); (have d2 := bcs hbA hz c2); (have d3 := bcs hbA hz c3); (have d4 := bcs hbA hz c4); cases b1)
    | (go_at_call 45; refine (HN.out _ hb1).mono ?_; rintro e w2 ⟨d, rfl, hbB⟩; (have hb2 := hb1.trans (hbB.mono hb1.size)); (have hz1 := Nat.lt_of_lt_of_le hz hbA.size); (have e0 := bcs hbB hz1 d0); (have e1 := bcs hbB hz1 d1); (have e2 := bcs hbB hz1 d2); (have e3 := bcs hbB hz1 d3); (have e4 := bcs hbB hz1 d4); (by_cases hd : d ≤ most))
    | (go_at_call 46; refine (HO.out _ hb2).mono ?_; rintro e w3 ⟨b3, rfl, hbC⟩; (have hb3 := hb2.trans (hbC.mono hb2.size))))
  all_goals go_ret
  all_goals first | (refine ⟨b3, rfl, ?_, hb3⟩; have h := hbL.out; exact fun _ => h trivial) | exact ⟨false, rfl, (fun h => by cases h), hb2⟩ | exact ⟨false, rfl, (fun h => by cases h), hb1⟩
end Go.Proofs.Ytfpgkiajggfadaa
