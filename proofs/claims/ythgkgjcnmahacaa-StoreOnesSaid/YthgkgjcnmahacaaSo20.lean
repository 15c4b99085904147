import Derived.Test.YthgkgjcnmahacaaSo09
import Derived.Test.YthgkgjcnmahacaaSo19
import Derived.Test.YthgkgjcnmahacaaSo16
import Derived.Test.YthgkgjcnmahacaaSo13
section
/- cardboxref18.Find and cardboxref18.New, walked. -/
set_option linter.unusedSimpArgs false
set_option linter.unusedVariables false
namespace Go.Proofs.Ythgkgjcnmahacaa
open Go.RowKit Go.OpenShut

set_option maxRecDepth 100000 in
set_option maxHeartbeats 2000000 in
theorem refFind_any (b : BoxD) (r : RB) (id : ByteArray) (w : World) (hb : BoxOf w w.heap.size b r) (ob : b.Ok) :
    Calls Try.prog 27 #[r.val, .string id] w (FindRet w (findJ b.objs id)) := by
  have ho := hb.objs
  have hlo := ob.objs
  obtain ⟨po, no, co, pt, nt, ct, sq, fl, kp⟩ := r
  dsimp only [RB.val] at *
  obtain ⟨rms, hrd, hms⟩ := ho
  have hn := rd_nlen hrd
  have hlm := hms.len
  have hA0 : BoxAt ((w.alloc (.cells #[.slice po no co, .slice pt nt ct, .int .i64 sq, .int .i64 fl, .int .i64 kp] 35)).alloc (.cells #[.int .i64 0, .int .i64 0, .string ⟨#[]⟩, .slice none 0 0, .slice none 0 0] 25)) w.heap.size ⟨po, no, co, pt, nt, ct, sq, fl, kp⟩ := heap_alloc_lt (by simp) (heap_alloc_at rfl)
  have hZ0 : VAt ((w.alloc (.cells #[.slice po no co, .slice pt nt ct, .int .i64 sq, .int .i64 fl, .int .i64 kp] 35)).alloc (.cells #[.int .i64 0, .int .i64 0, .string ⟨#[]⟩, .slice none 0 0, .slice none 0 0] 25)) (w.heap.size + 1) RV.zero := heap_alloc_at (by simp)
  have hB0 : Below w.heap.size w ((w.alloc (.cells #[.slice po no co, .slice pt nt ct, .int .i64 sq, .int .i64 fl, .int .i64 kp] 35)).alloc (.cells #[.int .i64 0, .int .i64 0, .string ⟨#[]⟩, .slice none 0 0, .slice none 0 0] 25)) := below2 w _ _
  have HRD := Lib.hid hrd
  have HMS := Lib.hid hms
  have HN : Hid (b.objs.length = no ∧ rms.length = no) := ⟨by omega, by omega⟩
  have hno : no ≤ 1466015503658 := by omega
  clear hb ob hrd hms hn hlm hlo
  go_enter Try.func27, Try.ntmps27
  go_upto_region 1 with fail
  obtain ⟨W0, hW0⟩ : ∃ W0, ((w.alloc (.cells #[.slice po no co, .slice pt nt ct, .int .i64 sq, .int .i64 fl, .int .i64 kp] 35)).alloc (.cells #[.int .i64 0, .int .i64 0, .string ⟨#[]⟩, .slice none 0 0, .slice none 0 0] 25)) = W0 := ⟨_, rfl⟩
  rw [hW0] at hA0 hZ0 hB0 ⊢
  clear hW0
  have c0 := hA0.cell 0 rfl
  dsimp only at c0
  have hz1 := hZ0.lt
  have z0 := hZ0.cell 0 rfl
  have z1 := hZ0.cell 1 rfl
  have z2 := hZ0.cell 2 rfl
  have z3 := hZ0.cell 3 rfl
  have z4 := hZ0.cell 4 rfl
  have y0 := hZ0.frozen 0
  have y1 := hZ0.frozen 1
  have y2 := hZ0.frozen 2
  have y3 := hZ0.frozen 3
  have y4 := hZ0.frozen 4
  dsimp only [RV.zero] at z0 z1 z2 z3 z4
  have HZ := Lib.hid hZ0
  have HB := Lib.hid hB0
  clear hA0 hZ0 hB0
  go_wp2_with fail
  go_loopw [6] (fun i wr => ∃ k : Nat, k ≤ no ∧ i = .int .i64 k ∧ Hid (∀ (j : Nat) y, j < k → b.objs[j]? = some y → decide (y.1 = id) = false) ∧ wr = W0) (fun i _ => no - (intOf i).toNat)
  case atStart => exact ⟨0, Nat.zero_le _, rfl, fun j y h => by omega, rfl⟩
  case round =>
    obtain ⟨k, hk, rfl, htk, rfl⟩ := hrel
    by_cases hlt : k < no
    · obtain ⟨p, hp⟩ : ∃ x, b.objs[k]? = some x := ⟨_, List.getElem?_eq_getElem (by have := HN.out; omega)⟩
      obtain ⟨q, hq⟩ : ∃ q, rms[k]? = some q := ⟨_, List.getElem?_eq_getElem (by have := HN.out; omega)⟩
      have hpq := HMS.out.name k p q hp hq
      have hTq := HMS.out.val k p q hp hq
      have HTq := Lib.hid (hTq.under HB.out (Nat.le_refl _))
      obtain ⟨b1, o1, rfl, hb1, hc1⟩ := rd_at' (HRD.out.below HB.out (Nat.le_refl _)) hq
      have f0 := hc1 0 _ rfl
      have f1 := hc1 1 _ rfl
      have f2 := hc1 2 _ rfl
      have f3 := hc1 3 _ rfl
      have f4 := hc1 4 _ rfl
      have f5 := hc1 5 _ rfl
      rw [Nat.add_zero] at f0
      have hk0 : (0 : Int) ≤ (k : Int) := Int.natCast_nonneg _
      have hk1 : (k : Int) < (no : Int) := by omega
      have HP := Lib.hid hp
      have hne1 : b1 ≠ w.heap.size + 1 := by omega
      have hne2 : w.heap.size ≠ w.heap.size + 1 := by omega
      by_cases he : q.name = id
      · have he1 : (q.name.toList == id.toList) = true := by rw [str_beq]; simpa using he
        have HG : Hid (findJ b.objs id = some p.2) := by
          have h1 := find_at (p := fun y : ByteArray × JV => decide (y.1 = id)) HP.out (by simpa [hpq] using he) htk.out
          obtain ⟨p', h2, h3⟩ := findJ_some h1
          rw [HP.out] at h2
          cases h2
          exact h3
        clear he hp hq hpq hTq hc1 htk
        go_wp2_with fail
        have HZ2 := HZ.out.stored q.v
        refine bodyPost_ret (v := .tuple #[RV.val q.v, .bool true]) (by simp [results, Try.results27, go_sem, z0, z1, z2, z3, z4]) rfl ⟨q.v, by rw [HG.out]; rfl, ?_, Below.stored HB.out (by omega) q.v⟩
        rw [HG.out]
        exact HTq.out.under (Below.stored (Below.refl _ _) (by omega) q.v) (by have := HB.out.size; simp; omega)
      · have he1 : (q.name.toList == id.toList) = false := by rw [str_beq]; simpa using he
        have HNX : Hid (∀ (j : Nat) y, j < k + 1 → b.objs[j]? = some y → decide (y.1 = id) = false) := by
          intro j y hj hy
          by_cases e : j = k
          · subst e
            rw [hp] at hy
            cases hy
            simpa [hpq] using he
          · exact htk.out j y (by omega) hy
        clear he hp hq hpq hTq hc1 htk
        go_wp2_with fail
        go_roundw
        case rel => exact ⟨k + 1, by omega, by go_num, HNX, by trivial⟩
        case measure => simp [intOf]; omega
    · have hk2 : ¬ ((k : Int) < (no : Int)) := by omega
      have HG : Hid (findJ b.objs id = none) := findJ_none (find_not (p := fun y : ByteArray × JV => decide (y.1 = id)) (fun j y hy => htk.out j y (by have := (List.getElem?_eq_some_iff.1 hy).1; have := HN.out; omega) hy))
      go_wp2_with fail
      have HZ2 := HZ.out.stored RV.zero
      refine bodyPost_ret (v := .tuple #[RV.val RV.zero, .bool false]) (by simp [results, Try.results27, go_sem, RV.zero, z0, z1, z2, z3, z4]) rfl ⟨RV.zero, by rw [HG.out]; rfl, by rw [HG.out]; exact TreeOf.zero _ _, Below.stored HB.out (by omega) RV.zero⟩

theorem clamp_cases (n hi : Int) : ∃ s, clampI n hi = s ∧ ((decide (n < 0) = true ∧ Hid (s = 0)) ∨ (decide (n < 0) = false ∧ decide (hi < n) = true ∧ Hid (s = hi)) ∨ (decide (n < 0) = false ∧ decide (hi < n) = false ∧ Hid (s = n))) := by
  refine ⟨_, rfl, ?_⟩
  unfold clampI Hid
  by_cases h1 : n < 0
  · simp [h1]
  · by_cases h2 : hi < n
    · simp [h1, h2]
    · simp [h1, h2]
set_option maxRecDepth 100000 in
set_option maxHeartbeats 4000000 in
theorem refNew_any (start keep : Int) (w : World) : Calls Try.prog 30 #[.int .i64 start, .int .i64 keep] w (NewRetB w start keep) := by
  have hZ0 : BoxAt (w.alloc (.cells #[.slice none 0 0, .slice none 0 0, .int .i64 0, .int .i64 0, .int .i64 0] 35)) w.heap.size RB.zero := heap_alloc_at rfl
  have hB0 : Below w.heap.size w (w.alloc (.cells #[.slice none 0 0, .slice none 0 0, .int .i64 0, .int .i64 0, .int .i64 0] 35)) := (Below.refl _ _).alloc (Nat.le_refl _) _
  obtain ⟨s, hs, cs⟩ := clamp_cases start 9007199254740991
  obtain ⟨k, hk, ck⟩ := clamp_cases keep 1000
  have HFS : Hid (NewRetB w start keep = fun e w' => e = .returned (RB.val ⟨none, 0, 0, none, 0, 0, s, s, k⟩) ∧ Below w.heap.size w w') := by unfold Hid; funext e w'; unfold NewRetB newR; rw [hs, hk]
  rw [HFS.out]
  clear hs hk HFS
  go_enter Try.func30, Try.ntmps30
  go_upto_region 1 with fail
  obtain ⟨W0, hW0⟩ : ∃ W0, (w.alloc (.cells #[.slice none 0 0, .slice none 0 0, .int .i64 0, .int .i64 0, .int .i64 0] 35)) = W0 := ⟨_, rfl⟩
  rw [hW0] at hZ0 hB0 ⊢
  clear hW0
  have z0 := hZ0.cell 0 rfl
  have z1 := hZ0.cell 1 rfl
  have z2 := hZ0.cell 2 rfl
  have z3 := hZ0.cell 3 rfl
  have z4 := hZ0.cell 4 rfl
  dsimp only [RB.zero] at z0 z1 z2 z3 z4
  have y0 := hZ0.frozen 0
  have y1 := hZ0.frozen 1
  have y2 := hZ0.frozen 2
  have y3 := hZ0.frozen 3
  have y4 := hZ0.frozen 4
  have HZ := Lib.hid hZ0
  have HB := Lib.hid hB0
  clear hZ0 hB0
  rcases cs with ⟨d1, es⟩ | ⟨d1, d2, es⟩ | ⟨d1, d2, es⟩ <;> rcases ck with ⟨d3, ek⟩ | ⟨d3, d4, ek⟩ | ⟨d3, d4, ek⟩
  all_goals
    go_wp2_with fail
    have hS := HZ.out.stored (newR start keep)
    refine bodyPost_ret (v := RB.val ⟨none, 0, 0, none, 0, 0, s, s, k⟩) (by simp [results, Try.results30, go_sem, es.out, ek.out, z0, z1, z2, z3, z4]) rfl ⟨rfl, ?_⟩
    exact Below.setCell (Below.setCell (Below.setCell (Below.setCell (Below.setCell HB.out (Nat.le_refl _) _) (Nat.le_refl _) _) (Nat.le_refl _) _) (Nat.le_refl _) _) (Nat.le_refl _) _
end Go.Proofs.Ythgkgjcnmahacaa
end

section
/- What is kept below a call's own memory, step by step. -/
set_option linter.unusedSimpArgs false
set_option linter.unusedVariables false
namespace Go.Proofs.Ythgkgjcnmahacaa
open Go.RowKit Go.OpenShut

theorem KB.setV {W W' : World} (h : KB W.heap.size W W') (g : Nat) (q : RV) (hg : W.heap.size ≤ g) : KB W.heap.size W (((((W'.setCell ⟨g, 0, none⟩ (.int .i64 q.k)).setCell ⟨g, 1, none⟩ (.int .i64 q.n)).setCell ⟨g, 2, none⟩ (.string q.s)).setCell ⟨g, 3, none⟩ (.slice q.pl q.nl q.cl)).setCell ⟨g, 4, none⟩ (.slice q.pm q.nm q.cm)) :=
  KB.mk (Below.stored h.1 hg q)
theorem kt_drew (W : World) : Below W.heap.size W W.drew ∧ ∀ b o, b < W.heap.size → World.cell? W.drew ⟨b, o, none⟩ = W.cell? ⟨b, o, none⟩ := KB.drew W
theorem kt_da (W : World) (x : Obj) : Below W.heap.size W (W.alloc x).drew ∧ ∀ b o, b < W.heap.size → World.cell? (W.alloc x).drew ⟨b, o, none⟩ = W.cell? ⟨b, o, none⟩ := (KB.mk ((Below.refl _ _).alloc (Nat.le_refl _) x).drew : KB W.heap.size W (W.alloc x).drew)
theorem kt_same {W W' : World} (h : KB W.heap.size W W') : Below W.heap.size W W' ∧ ∀ b o, b < W.heap.size → World.cell? W' ⟨b, o, none⟩ = W.cell? ⟨b, o, none⟩ := h
theorem kt_alloc {W W' : World} (h : KB W.heap.size W W') (x : Obj) : Below W.heap.size W (W'.alloc x) ∧ ∀ b o, b < W.heap.size → World.cell? (W'.alloc x) ⟨b, o, none⟩ = W.cell? ⟨b, o, none⟩ := h.step ((Below.refl _ _).alloc (Nat.le_refl _) _)
theorem kt_setV {W W' : World} (h : KB W.heap.size W W') (g : Nat) (q : RV) (hg : W.heap.size ≤ g) : Below W.heap.size W (((((W'.setCell ⟨g, 0, none⟩ (.int .i64 q.k)).setCell ⟨g, 1, none⟩ (.int .i64 q.n)).setCell ⟨g, 2, none⟩ (.string q.s)).setCell ⟨g, 3, none⟩ (.slice q.pl q.nl q.cl)).setCell ⟨g, 4, none⟩ (.slice q.pm q.nm q.cm)) ∧ ∀ b o, b < W.heap.size → World.cell? (((((W'.setCell ⟨g, 0, none⟩ (.int .i64 q.k)).setCell ⟨g, 1, none⟩ (.int .i64 q.n)).setCell ⟨g, 2, none⟩ (.string q.s)).setCell ⟨g, 3, none⟩ (.slice q.pl q.nl q.cl)).setCell ⟨g, 4, none⟩ (.slice q.pm q.nm q.cm)) ⟨b, o, none⟩ = W.cell? ⟨b, o, none⟩ := h.setV g q hg
end Go.Proofs.Ythgkgjcnmahacaa
end
