/- The document's answer of what is found, walked. -/
import Derived.Test.YtfpgkiajggfadaaTree4
set_option linter.unusedSimpArgs false
set_option linter.unusedVariables false
namespace Go.Proofs.Ytfpgkiajggfadaa
open Go.RowKit Go.OpenShut

set_option maxRecDepth 100000 in
set_option maxHeartbeats 2000000 in
theorem refGet_any (t : JV) (r : RV) (name : ByteArray) (w : World) (ht : TreeOf w w.heap.size t r) (ot : t.Ok) :
    Calls Try.prog 26 #[r.val, .string name] w (GetRet w (t.get name)) := by
  cases ht with
  | @mk _ l m rs rms hl el hcl hm em hcn hcm =>
  obtain ⟨k, n, s, pl, nl, cl, pm, nm, cm⟩ := r
  cases ot with
  | mk _ _ _ bl bm okl oks okm =>
  dsimp only [RV.val] at *
  have eM := rd_nlen hm
  have hA0 : VAt ((w.alloc (.cells #[.int .i64 k, .int .i64 n, .string s, .slice pl nl cl, .slice pm nm cm] 45)).alloc (.cells #[.int .i64 0, .int .i64 0, .string ⟨#[]⟩, .slice none 0 0, .slice none 0 0] 45)) w.heap.size ⟨k, n, s, pl, nl, cl, pm, nm, cm⟩ := heap_alloc_lt (by simp) (heap_alloc_at rfl)
  have hA1 : VAt ((w.alloc (.cells #[.int .i64 k, .int .i64 n, .string s, .slice pl nl cl, .slice pm nm cm] 45)).alloc (.cells #[.int .i64 0, .int .i64 0, .string ⟨#[]⟩, .slice none 0 0, .slice none 0 0] 45)) (w.heap.size + 1) RV.zero := heap_alloc_at (by simp)
  have hB0 := below2 w (.cells #[.int .i64 k, .int .i64 n, .string s, .slice pl nl cl, .slice pm nm cm] 45) (.cells #[.int .i64 0, .int .i64 0, .string ⟨#[]⟩, .slice none 0 0, .slice none 0 0] 45)
  have HN := Lib.hid hcn
  have HM := Lib.hid hm
  have HV := Lib.hid hcm
  have E2 : Hid (m.length = nm ∧ rms.length = nm) := ⟨by omega, by omega⟩
  have hnm : nm ≤ 1466015503658 := by omega
  have HG6 : Hid (k = 6 → (JV.mk k n s l m).place name = m.findIdx? (fun p => decide (p.1 = name)) ∧ (JV.mk k n s l m).mem = m) := by
    intro h
    have e : (JV.mk k n s l m).mem = m := by show (if k = 6 then m else []) = m; rw [if_pos h]
    exact ⟨by unfold JV.place; rw [e], e⟩
  have HGN : Hid (k ≠ 6 → (JV.mk k n s l m).get name = none) := by
    intro h
    have e : (JV.mk k n s l m).mem = [] := by show (if k = 6 then m else []) = []; rw [if_neg h]
    unfold JV.get JV.place; rw [e]; rfl
  clear hcl hcn hcm hl hm okl oks okm el em bl bm eM
  go_enter Try.func26, Try.ntmps26
  go_upto_region 1 with fail
  obtain ⟨W0, hW0⟩ : ∃ W0, ((w.alloc (.cells #[.int .i64 k, .int .i64 n, .string s, .slice pl nl cl, .slice pm nm cm] 45)).alloc (.cells #[.int .i64 0, .int .i64 0, .string ⟨#[]⟩, .slice none 0 0, .slice none 0 0] 45)) = W0 := ⟨_, rfl⟩
  rw [hW0] at hA0 hA1 hB0 ⊢
  clear hW0
  have hz := hA1.lt
  have c0 := hA0.cell 0 rfl
  have c4 := hA0.cell 4 rfl
  have z0 := hA1.cell 0 rfl
  have z1 := hA1.cell 1 rfl
  have z2 := hA1.cell 2 rfl
  have z3 := hA1.cell 3 rfl
  have z4 := hA1.cell 4 rfl
  dsimp only [RV.zero] at c0 c4 z0 z1 z2 z3 z4
  have y0 := hA1.frozen 0
  have y1 := hA1.frozen 1
  have y2 := hA1.frozen 2
  have y3 := hA1.frozen 3
  have y4 := hA1.frozen 4
  have HZ := Lib.hid hA1
  clear hA0 hA1
  by_cases hk : k = 6
  · subst hk
    have HPL := HG6
    clear HG6 HGN
    go_wp2_with fail
    go_loopw [6] (fun i wr => ∃ k : Nat, k ≤ nm ∧ i = .int .i64 k ∧ Hid (∀ (j : Nat) y, j < k → m[j]? = some y → decide (y.1 = name) = false) ∧ wr = W0) (fun i _ => nm - (intOf i).toNat)
    case atStart => exact ⟨0, Nat.zero_le _, rfl, fun j y h => by omega, rfl⟩
    case round =>
      obtain ⟨k, hk, rfl, hno, rfl⟩ := hrel
      by_cases hlt : k < nm
      · obtain ⟨tx, htx⟩ : ∃ x, m[k]? = some x := ⟨_, List.getElem?_eq_getElem (by have := E2.out; omega)⟩
        obtain ⟨x, hx⟩ : ∃ x, rms[k]? = some x := ⟨_, List.getElem?_eq_getElem (by have := E2.out; omega)⟩
        obtain ⟨b1, o1, rfl, hb1, hc1⟩ := rd_at' (HM.out.below hB0 (Nat.le_refl _)) hx
        have f0 := hc1 0 _ rfl
        have f1 := hc1 1 _ rfl
        have f2 := hc1 2 _ rfl
        have f3 := hc1 3 _ rfl
        have f4 := hc1 4 _ rfl
        have f5 := hc1 5 _ rfl
        rw [Nat.add_zero] at f0
        have en := HN.out k tx x htx hx
        have HTX := Lib.hid htx
        have HTV := Lib.hid ((HV.out k tx x htx hx).under hB0 (Nat.le_refl _))
        have hk0 : (0 : Int) ≤ (k : Int) := Int.natCast_nonneg _
        have hk1 : (k : Int) < (nm : Int) := by omega
        clear hc1 htx hx
        by_cases hnx : x.name = name
        · have hq : (x.name.toList == name.toList) = true := by rw [str_beq]; simpa using hnx
          have hfi := find_at (p := fun p : ByteArray × JV => decide (p.1 = name)) HTX.out (by rw [en]; simpa using hnx) hno.out
          have HG : Hid ((JV.mk 6 n s l m).get name = some tx.2) := by
            unfold Hid JV.get
            rw [(HPL.out (by simp)).1, hfi]
            show ((JV.mk 6 n s l m).mem[k]?).map (·.2) = _
            rw [(HPL.out (by simp)).2, HTX.out]; rfl
          clear hnx en hfi
          go_wp2_with fail
          refine bodyPost_ret (v := .tuple #[RV.val x.v, .bool true]) (by simp [results, Try.results26, go_sem, z0, z1, z2, z3, z4]) rfl ⟨x.v, true, rfl, by rw [HG.out]; rfl, ?_, Below.stored hB0 (by omega) x.v⟩
          rw [HG.out]
          exact HTV.out.under (Below.stored (Below.refl _ _) (by omega) x.v) (by have := hB0.size; simp; omega)
        · have hq : (x.name.toList == name.toList) = false := by rw [str_beq]; simpa using hnx
          have HNX : Hid (∀ (j : Nat) y, j < k + 1 → m[j]? = some y → decide (y.1 = name) = false) := by
            intro j y hj hy
            by_cases e : j = k
            · subst e
              have h := HTX.out
              rw [hy] at h
              cases h
              rw [en]; simpa using hnx
            · exact hno.out j y (by omega) hy
          clear hnx en
          go_wp2_with fail
          go_roundw
          case rel => exact ⟨k + 1, by omega, by go_num, HNX, trivial⟩
          case measure => simp [intOf]; omega
      · obtain rfl : k = nm := by omega
        have HF := find_not (p := fun p : ByteArray × JV => decide (p.1 = name)) (l := m) (fun j y hy => hno.out j y (by have := (List.getElem?_eq_some_iff.1 hy).1; have := E2.out; omega) hy)
        have HG : Hid ((JV.mk 6 n s l m).get name = none) := by
          unfold Hid JV.get
          rw [(HPL.out (by simp)).1, HF]; rfl
        clear HF
        go_wp2_with fail
        exact bodyPost_ret (v := .tuple #[RV.val RV.zero, .bool false]) (by simp [results, Try.results26, go_sem, RV.zero, z0, z1, z2, z3, z4]) rfl ⟨RV.zero, false, rfl, by rw [HG.out]; rfl, by rw [HG.out]; exact TreeOf.zero _ _, Below.stored hB0 (by omega) RV.zero⟩
  · have HG := Lib.hid (HGN.out hk)
    have hq : (k == 6) = false := by simpa using hk
    clear HG6 HGN hk
    go_wp2_with fail
    go_loopw [6] (fun i wr => i = .int .i64 0 ∧ wr = W0) (fun i _ => 0)
    case atStart => exact ⟨rfl, rfl⟩
    case round =>
      obtain ⟨rfl, rfl⟩ := hrel
      by_cases h0 : 0 < nm
      all_goals
        go_wp2_with fail
        exact bodyPost_ret (v := .tuple #[RV.val RV.zero, .bool false]) (by simp [results, Try.results26, go_sem, RV.zero, z0, z1, z2, z3, z4]) rfl ⟨RV.zero, false, rfl, by rw [HG.out]; rfl, by rw [HG.out]; exact TreeOf.zero _ _, Below.stored hB0 (by omega) RV.zero⟩
end Go.Proofs.Ytfpgkiajggfadaa
