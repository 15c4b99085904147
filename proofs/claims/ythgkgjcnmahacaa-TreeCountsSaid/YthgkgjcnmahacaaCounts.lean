/- The law of how many values a right value has, walked. -/
import Derived.Test.YthgkgjcnmahacaaTAw
import Derived.Test.YthgkgjcnmahacaaSortL
import Derived.Test.YthgkgjcnmahacaaCheck
set_option linter.unusedSimpArgs false
set_option linter.unusedVariables false
namespace Go.Proofs.Ythgkgjcnmahacaa
open Go.RowKit Go.OpenShut

theorem count_pos (t : JV) : 1 ≤ countT t := by
  cases t
  unfold countT
  omega
theorem wrap_small {a : Int} (h0 : 0 ≤ a) (h1 : a ≤ 100000) : IntKind.i64.wrap a = a := by rw [IntKind.wrap_i64]; omega
/-- A value twice in a list, in a block of its own. -/
theorem twice_tree {W : World} {t : JV} {r : RV} (h : TreeOf W W.heap.size t r) :
    TreeOf (W.alloc (.cells #[.int .i64 r.k, .int .i64 r.n, .string r.s, .slice r.pl r.nl r.cl, .slice r.pm r.nm r.cm, .int .i64 r.k, .int .i64 r.n, .string r.s, .slice r.pl r.nl r.cl, .slice r.pm r.nm r.cm] 25))
      (W.alloc (.cells #[.int .i64 r.k, .int .i64 r.n, .string r.s, .slice r.pl r.nl r.cl, .slice r.pm r.nm r.cm, .int .i64 r.k, .int .i64 r.n, .string r.s, .slice r.pl r.nl r.cl, .slice r.pm r.nm r.cm] 25)).heap.size
      (.mk 5 0 ⟨#[]⟩ [t, t] []) ⟨5, 0, ⟨#[]⟩, some ⟨W.heap.size, 0, none⟩, 2, 2, none, 0, 0⟩ := by
  have ha := @heap_alloc_at W (.cells #[.int .i64 r.k, .int .i64 r.n, .string r.s, .slice r.pl r.nl r.cl, .slice r.pm r.nm r.cm, .int .i64 r.k, .int .i64 r.n, .string r.s, .slice r.pl r.nl r.cl, .slice r.pm r.nm r.cm] 25) _ rfl
  have hu := h.under (w' := W.alloc (.cells #[.int .i64 r.k, .int .i64 r.n, .string r.s, .slice r.pl r.nl r.cl, .slice r.pm r.nm r.cm, .int .i64 r.k, .int .i64 r.n, .string r.s, .slice r.pl r.nl r.cl, .slice r.pm r.nm r.cm] 25)) ((Below.refl _ _).alloc (Nat.le_refl _) _) (B' := (W.alloc (.cells #[.int .i64 r.k, .int .i64 r.n, .string r.s, .slice r.pl r.nl r.cl, .slice r.pm r.nm r.cm, .int .i64 r.k, .int .i64 r.n, .string r.s, .slice r.pl r.nl r.cl, .slice r.pm r.nm r.cm] 25)).heap.size) (by simp)
  refine TreeOf.mk (r := ⟨5, 0, ⟨#[]⟩, some ⟨W.heap.size, 0, none⟩, 2, 2, none, 0, 0⟩) (rs := [r, r]) (rms := []) ⟨some ⟨W.heap.size, 0, none⟩, 2, rfl, by simp, by unfold maxLen; omega, (fun e => by cases e), fun a ha' _ => ⟨W.heap.size, 0, by cases ha'; rfl, by simp, fun i x hx j u hu => ?_⟩⟩ rfl (fun i t' q h1 h2 => ?_) (Rd.nil _ _) rfl (fun i p q h => by simp at h) (fun i p q h => by simp at h)
  · have e : ∀ o, (W.alloc (.cells #[.int .i64 r.k, .int .i64 r.n, .string r.s, .slice r.pl r.nl r.cl, .slice r.pm r.nm r.cm, .int .i64 r.k, .int .i64 r.n, .string r.s, .slice r.pl r.nl r.cl, .slice r.pm r.nm r.cm] 25)).cell? ⟨W.heap.size, o, none⟩ = (encV r ++ encV r)[o]? := fun o => by
      rw [cell_of_row _ _ _ _ _ _ ha, ← Array.getElem?_toList]; rfl
    rw [e]
    have hj : j < 5 := by have := (List.getElem?_eq_some_iff.1 hu).1; simpa [encV] using this
    match i with
    | 0 =>
      cases hx
      rw [List.getElem?_append_left (by simp [encV]; omega)]
      simpa using hu
    | 1 =>
      cases hx
      rw [List.getElem?_append_right (by simp [encV])]
      simpa [encV] using hu
    | i + 2 => simp at hx
  · match i with
    | 0 => cases h1; cases h2; exact hu
    | 1 => cases h1; cases h2; exact hu
    | i + 2 => simp at h1
theorem twice_ok {t : JV} (h : t.Ok) : (JV.mk 5 0 ⟨#[]⟩ [t, t] []).Ok := .mk (by decide) (by decide) (by decide) (by simp) (by decide)
  (fun i x hx => by
    match i with
    | 0 => cases hx; exact h
    | 1 => cases hx; exact h
    | i + 2 => simp at hx) (fun i p h => by simp at h) (fun i p h => by simp at h)

set_option maxRecDepth 200000 in
set_option maxHeartbeats 8000000 in
theorem treeCounts_any (w : World) (t : JV) (r : RV) (ht : TreeOf w w.heap.size t r) (ot : t.Ok) :
    Calls Try.prog 3 #[r.val] w fun e w' => e = .returned (.bool true) ∧ Below w.heap.size w w' := by
  have HC0 := ((Ctx.nil w).know ht).alloc r
  have HT := Lib.hid ot
  have hok := chkT_ok t 1 0
  have hpos := count_pos t
  clear ht ot
  go_enter Try.func3, Try.ntmps3
  go_upto_region 1 with fail
  obtain ⟨W, g1, hW, hg, HC⟩ : ∃ W g, (w.alloc r.obj) = W ∧ w.heap.size = g ∧ Ctx w.heap.size w W [(g, r)] [(t, r)] := ⟨_, _, rfl, rfl, by simpa using HC0⟩
  dsimp only [RV.obj] at hW
  rw [hW, hg]
  clear hW hg HC0
  have q0 := HC.lt 0 rfl
  have c0 := (HC.at 0 rfl).cell 0 rfl
  have c1 := (HC.at 0 rfl).cell 1 rfl
  have c2 := (HC.at 0 rfl).cell 2 rfl
  have c3 := (HC.at 0 rfl).cell 3 rfl
  have c4 := (HC.at 0 rfl).cell 4 rfl
  go_wp2_with fail
  refine (tawake_any _).mono ?_
  rintro e w1 ⟨rfl, hb1⟩
  have hk1 := KB.step (KB.refl W) hb1
  have hr1 := hk1.2
  go_wp2_with fail
  have hC := check_any t r w1 (HC.tk hk1 0 rfl) HT.out
  by_cases h0 : checkE t = 0
  · rw [h0] at hC
    have hle := (hok h0).2
    clear hok h0
    refine hC.mono ?_
    rintro e w2 ⟨rfl, hb2⟩
    have hk2 := KB.step hk1 hb2
    have hr2 := hk2.2
    have HCN : ∀ W', KB W.heap.size W W' → Calls Try.prog 16 #[r.val] W' fun e w' => e = .returned (.int .i64 (countT t : Nat)) ∧ Below W'.heap.size W' w' := fun W' hk => by
      have h := countT_any _ t r W' (Nat.le_refl _) (HC.tk hk 0 rfl) HT.out
      unfold CountRet at h
      rw [wrap_small (by omega) (by omega)] at h
      exact h
    have HSN : ∀ W', KB W.heap.size W W' → Calls Try.prog 17 #[r.val] W' fun e w' => ∃ q : RV, e = .returned q.val ∧ (∀ W'', Below w'.heap.size w' W'' → Calls Try.prog 16 #[q.val] W'' fun e w' => e = .returned (.int .i64 (countT t : Nat)) ∧ Below W''.heap.size W'' w') ∧ Below W'.heap.size W' w' := fun W' hk =>
      (sort_any _ t r W' (Nat.le_refl _) (HC.tk hk 0 rfl) HT.out).mono fun e w' ⟨u, hu, q, he, hq, hw⟩ => by
        refine ⟨q, he, fun W'' hb => ?_, hw⟩
        have h := countT_any _ u q W'' (Nat.le_refl _) (hq.tree.under hb hb.size) (hu.ok HT.out)
        unfold CountRet at h
        rw [hu.count, wrap_small (by omega) (by omega)] at h
        exact h
    have HTW : ∀ W', KB W.heap.size W W' → Calls Try.prog 16 #[.agg #[.int .i64 5, .int .i64 0, .string ⟨#[]⟩, .slice (some ⟨W'.heap.size, 0, none⟩) 2 2, .slice none 0 0]] (W'.alloc (.cells #[.int .i64 r.k, .int .i64 r.n, .string r.s, .slice r.pl r.nl r.cl, .slice r.pm r.nm r.cm, .int .i64 r.k, .int .i64 r.n, .string r.s, .slice r.pl r.nl r.cl, .slice r.pm r.nm r.cm] 25)) fun e w' => e = .returned (.int .i64 (2 * (countT t : Nat) + 1)) ∧ Below W'.heap.size W' w' := fun W' hk => by
      have h := countT_any _ _ _ _ (Nat.le_refl _) (twice_tree (HC.tk hk 0 rfl)) (twice_ok HT.out)
      unfold CountRet at h
      have e1 : countT (.mk 5 0 ⟨#[]⟩ [t, t] []) = 2 * countT t + 1 := by simp only [countT, countL, countM]; omega
      rw [e1, wrap_small (by omega) (by omega), show (((2 * countT t + 1 : Nat) : Int)) = 2 * (countT t : Int) + 1 by omega] at h
      exact h.mono fun e w' ⟨he, hw⟩ => ⟨he, ((Below.refl _ _).alloc (Nat.le_refl _) _).trans (hw.mono (by simp))⟩
    obtain ⟨c, hc⟩ : ∃ c, countT t = c := ⟨_, rfl⟩
    rw [hc] at hle hpos
    simp only [hc] at HCN HSN HTW
    have HCN := Lib.hid HCN
    have HSN := Lib.hid HSN
    have HTW := Lib.hid HTW
    clear hc hC
    go_wp2_with fail
    refine (HCN.out _ hk2).mono ?_
    rintro e w3 ⟨rfl, hb3⟩
    have hk3 := KB.step hk2 hb3
    have hr3 := hk3.2
    have p1 : (1 : Int) ≤ (c : Int) := by omega
    have p2 : (c : Int) ≤ 8192 := by omega
    have d1 : decide ((1 : Int) ≤ (c : Int)) = true := by simpa using p1
    have d2 : decide ((c : Int) ≤ 8192) = true := by simpa using p2
    go_wp2_with fail
    refine (HTW.out _ hk3).mono ?_
    rintro e w4 ⟨rfl, hb4⟩
    have hk4 := KB.step hk3 hb4
    have hr4 := hk4.2
    go_wp2_with fail
    refine (HSN.out _ hk4).mono ?_
    rintro e w5 ⟨q, rfl, HQ, hb5⟩
    have hk5 := KB.step hk4 hb5
    have HQ := Lib.hid HQ
    go_wp2_with fail
    refine (HQ.out _ (Below.refl _ _)).mono ?_
    rintro e w6 ⟨rfl, hb6⟩
    have hk6 := KB.step hk5 hb6
    go_wp2_with fail
    go_ret
    exact ⟨rfl, HC.fin hk6⟩
  · have hq1 : (checkE t != 0) = true := by simpa using h0
    have hq2 : (checkE t == 0) = false := by simpa using h0
    refine hC.mono ?_
    rintro e w2 ⟨rfl, hb2⟩
    have hk2 := KB.step hk1 hb2
    clear hok h0 hC
    go_wp2_with fail
    refine (tawake_any _).mono ?_
    rintro e w3 ⟨rfl, hb3⟩
    go_wp2_with fail
    go_ret
    exact ⟨rfl, HC.fin (KB.step hk2 hb3)⟩
end Go.Proofs.Ythgkgjcnmahacaa
