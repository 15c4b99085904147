import Derived.Test.YtfpgkiajggfadaaTrC
set_option linter.unusedSimpArgs false
set_option linter.unusedVariables false
namespace Go.Proofs.Ytfpgkiajggfadaa
open Go.RowKit Go.OpenShut

/-- The floor behind k rounds. -/
def floorAt (L : List En) (g : Nat) (floor : Int) (k : Nat) : Int := if min k g = 0 then floor else ((L[min k g - 1]?).map En.seq).getD 0
def outAt (L : List En) (g k : Nat) : List En := (L.take k).drop g

theorem outAt_keep {L : List En} {g k : Nat} {x : En} (hx : L[k]? = some x) (hg : g ≤ k) : outAt L g (k + 1) = outAt L g k ++ [x] := by
  unfold outAt
  have hk := (List.getElem?_eq_some_iff.1 hx).1
  rw [List.take_add_one, hx, Option.toList_some, List.drop_append_of_le_length (by simp; omega)]
theorem outAt_skip {L : List En} {g k : Nat} (hg : k < g) : outAt L g (k + 1) = outAt L g k := by
  unfold outAt
  rw [List.drop_eq_nil_of_le (by simp; omega), List.drop_eq_nil_of_le (by simp; omega)]
theorem floorAt_keep {L : List En} {g k : Nat} (floor : Int) (hg : g ≤ k) : floorAt L g floor (k + 1) = floorAt L g floor k := by
  unfold floorAt
  rw [Nat.min_eq_right hg, Nat.min_eq_right (by omega)]
theorem floorAt_skip {L : List En} {g k : Nat} {x : En} (floor : Int) (hx : L[k]? = some x) (hg : k < g) : floorAt L g floor (k + 1) = x.seq := by
  unfold floorAt
  rw [Nat.min_eq_left (by omega), if_neg (by omega), Nat.add_sub_cancel, hx]
  rfl

def RelAdd (W : World) (L : List En) (g : Nat) (floor : Int) (k : Nat) (f o : Value) (wr : World) : Prop :=
  f = .int .i64 (floorAt L g floor k) ∧ Own wr W.heap.size 26 encE 3 o (outAt L g k) ∧ Below W.heap.size W wr

set_option maxRecDepth 100000 in
set_option maxHeartbeats 1000000 in
theorem refAdd_any (w : World) (v : Value) (l : List En) (floor keep : Int) (e : En) (hv : Rd w w.heap.size encE 3 v l) (hk : (Lit.int .i64 keep).wf = true) (hsz : (l.length + 1) * 32 ≤ 140737488355328) :
    Calls Try.prog 16 #[v, .int .i64 floor, .int .i64 keep, .agg #[.int .i64 e.seq, .string e.id, .int .i64 e.what]] w (AddRet w (addL l keep e) (addF l floor keep e)) := by
  obtain ⟨p, cap, rfl, hlc, hcm, hp0, hp⟩ := hv
  have bk := bounds_i64 hk
  have hlen : l.length ≤ 4398046511104 := by omega
  have HS := Lib.hid hsz
  obtain ⟨i0, hi, hz0, hz1, hz2⟩ := info_parts infoE
  clear hsz hk hcm
  have hP : ∀ k x, l[k]? = some x → ∃ b o, p = some ⟨b, o, none⟩ ∧ b < w.heap.size ∧ w.cell? ⟨b, o + k * 3, none⟩ = some (.int .i64 x.seq) ∧ w.cell? ⟨b, o + k * 3 + 1, none⟩ = some (.string x.id) ∧ w.cell? ⟨b, o + k * 3 + 2, none⟩ = some (.int .i64 x.what) := by
    intro k x hx
    have hkl := (List.getElem?_eq_some_iff.1 hx).1
    cases p with
    | none => have := hp0 rfl; omega
    | some a =>
      obtain ⟨b, o, rfl, hb, hr⟩ := hp a rfl
      exact ⟨b, o, rfl, hb, hr k x hx 0 _ rfl, hr k x hx 1 _ rfl, hr k x hx 2 _ rfl⟩
  have HP := Lib.hid hP
  clear hP hp hp0 hlc
  go_enter Try.func16, Try.ntmps16
  go_upto_if 14 with (fail)
  go_cut [2] (fun s wr => s = .int .i64 (keep.toNat : Int) ∧ wr = w.alloc (.cells #[.int .i64 e.seq, .string e.id, .int .i64 e.what] 26))
  case first =>
    by_cases hn : keep < 0
    · have h0 : keep.toNat = 0 := by omega
      have H0 := Lib.hid h0
      clear h0
      go_wp2_with fail
      go_meet
      exact ⟨by rw [H0.out]; rfl, rfl⟩
    · obtain ⟨K, rfl⟩ := Int.eq_ofNat_of_zero_le (Int.not_lt.1 hn)
      go_wp2_with fail
      go_meet
      exact ⟨by simp, rfl⟩
  case rest =>
  obtain ⟨rfl, rfl⟩ := hcut
  have HA : Hid (addL l keep e = outAt (l ++ [e]) (l.length + 1 - keep.toNat) (l.length + 1) ∧ addF l floor keep e = floorAt (l ++ [e]) (l.length + 1 - keep.toNat) floor (l.length + 1)) := by
    unfold Hid addL addF outAt floorAt addGone
    rw [List.take_of_length_le (by simp), Nat.min_eq_right (by omega)]
    exact ⟨rfl, rfl⟩
  generalize keep.toNat = K at HA ⊢
  have HB0 : Below w.heap.size w (w.alloc (.cells #[.int .i64 e.seq, .string e.id, .int .i64 e.what] 26)) := (Below.refl _ _).alloc (Nat.le_refl _) _
  have ce0 : (w.alloc (.cells #[.int .i64 e.seq, .string e.id, .int .i64 e.what] 26)).cell? ⟨w.heap.size, 0, none⟩ = some (.int .i64 e.seq) := by simp [World.cell?_alloc_new]
  have ce1 : (w.alloc (.cells #[.int .i64 e.seq, .string e.id, .int .i64 e.what] 26)).cell? ⟨w.heap.size, 1, none⟩ = some (.string e.id) := by simp [World.cell?_alloc_new]
  have ce2 : (w.alloc (.cells #[.int .i64 e.seq, .string e.id, .int .i64 e.what] 26)).cell? ⟨w.heap.size, 2, none⟩ = some (.int .i64 e.what) := by simp [World.cell?_alloc_new]
  have hWs : (w.alloc (.cells #[.int .i64 e.seq, .string e.id, .int .i64 e.what] 26)).heap.size = w.heap.size + 1 := by simp
  generalize hW : w.alloc (.cells #[.int .i64 e.seq, .string e.id, .int .i64 e.what] 26) = W at HB0 ce0 ce1 ce2 hWs ⊢
  have hWlt : w.heap.size < W.heap.size := by omega
  have hWl2 : W.heap.size ≤ w.heap.size + 1 := by omega
  clear hW hWs
  go_wp2_with fail
  go_loopw [1, 10, 11] (fun f o i wr => ∃ k : Nat, k ≤ l.length + 1 ∧ i = .int .i64 k ∧ RelAdd W (l ++ [e]) (l.length + 1 - K) floor k f o wr) (fun _ _ i _ => l.length + 1 - (intOf i).toNat)
  case atStart => exact ⟨0, by omega, rfl, by simp [floorAt], by simp only [outAt, List.take_zero, List.drop_nil]; exact Own.nil _ _ _, Below.refl _ _⟩
  case round =>
    obtain ⟨k, hk, rfl, rfl, HO, HB⟩ := hrel
    by_cases hlast : k ≤ l.length
    · obtain ⟨x, hx⟩ : ∃ x, (l ++ [e])[k]? = some x := ⟨_, List.getElem?_eq_getElem (by simp; omega)⟩
      have HX := Lib.hid hx
      clear hx
      have hsz := HB.size
      have HBw := HB0.trans (HB.mono (by omega))
      have HO2 := (HO.alloc (.cells #[.int .i64 x.seq, .string x.id, .int .i64 x.what] 26)).alloc (.cells #[.int .i64 x.seq, .string x.id, .int .i64 x.what] 26)
      have q5 : ∀ j u, (encE x)[j]? = some u → ((wr.alloc (.cells #[.int .i64 x.seq, .string x.id, .int .i64 x.what] 26)).alloc (.cells #[.int .i64 x.seq, .string x.id, .int .i64 x.what] 26)).cell? ((⟨wr.heap.size + 1, 0, none⟩ : Addr).add j) = some u := by
        have h0 := heap_alloc_new (wr.alloc (.cells #[.int .i64 x.seq, .string x.id, .int .i64 x.what] 26)) (.cells #[.int .i64 x.seq, .string x.id, .int .i64 x.what] 26)
        rw [World.size_alloc] at h0
        exact World.news_of_block h0
      have hol : (outAt (l ++ [e]) (l.length + 1 - K) k).length ≤ l.length := by unfold outAt; simp; omega
      have HM : Hid ((outAt (l ++ [e]) (l.length + 1 - K) k).length + 1 ≤ maxLen) := by unfold Hid maxLen; omega
      have HY : Hid (((outAt (l ++ [e]) (l.length + 1 - K) k).length + 1) * 32 ≤ 140737488355328) := by have := HS.out; unfold Hid; omega
      have fin : ∀ v1 w1, w1.ownsRow W.heap.size 26 3 v1 ((outAt (l ++ [e]) (l.length + 1 - K) k).length + 1) (cellsOf encE (outAt (l ++ [e]) (l.length + 1 - K) k) ++ encE x) → l.length + 1 - K ≤ k → Own w1 W.heap.size 26 encE 3 v1 (outAt (l ++ [e]) (l.length + 1 - K) (k + 1)) := by
        intro v1 w1 h hg
        rw [outAt_keep HX.out hg]
        unfold Own
        rw [cellsOf_append, cellsOf_single, List.length_append]
        exact h
      have FIN := Lib.hid fin
      have hlt := HO.lt
      clear fin hol
      have HBx := HB.alloc (Nat.le_trans (Nat.le_refl _) hsz) (.cells #[.int .i64 x.seq, .string x.id, .int .i64 x.what] 26)
      have HBxx := HBx.alloc (by simp; omega) (.cells #[.int .i64 x.seq, .string x.id, .int .i64 x.what] 26)
      rcases Nat.lt_or_ge k l.length with hkl | hkl
      · have hx' : l[k]? = some x := by have := HX.out; rw [List.getElem?_append_left hkl] at this; exact this
        obtain ⟨b, o, rfl, hb, g0, g1, g2⟩ := HP.out k x hx'
        replace g0 := fun ob => bcs ((Below.refl wr.heap.size wr).alloc (Nat.le_refl _) ob) (Nat.lt_of_lt_of_le hb HBw.size) (bcs HBw hb g0)
        replace g1 := fun ob => bcs ((Below.refl wr.heap.size wr).alloc (Nat.le_refl _) ob) (Nat.lt_of_lt_of_le hb HBw.size) (bcs HBw hb g1)
        replace g2 := fun ob => bcs ((Below.refl wr.heap.size wr).alloc (Nat.le_refl _) ob) (Nat.lt_of_lt_of_le hb HBw.size) (bcs HBw hb g2)
        replace ce0 := bcs HB hWlt ce0
        replace ce1 := bcs HB hWlt ce1
        replace ce2 := bcs HB hWlt ce2
        clear hx'
        by_cases hg : l.length + 1 - K ≤ k
        · have ht : (l.length : Int) - k < K := by omega
          go_wp2_with (at_builtin; refine wpList_append_own _ rfl _ _ 22 rfl W.heap.size 26 i0 _ 3 32 Try.underlying22 hi hz0 hz1 hz2 rfl (by decide) u10 _ _ rfl HO2 ⟨wr.heap.size + 1, 0, none⟩ 1 1 (encE x) rfl rfl q5 (codecE.one x) HM.out HY.out (by simp; omega) ?_; intro v1 w1 hown1 hg1 _)
          have HFL := Lib.hid (floorAt_keep (L := l ++ [e]) floor hg)
          go_roundw
          case rel => exact ⟨k + 1, by omega, by go_num, by rw [HFL.out], FIN.out _ _ hown1 hg, HBxx.grown hg1 (by simp; omega) (fun j hj => (hlt j hj).1)⟩
          case measure => simp [intOf]; omega
        · have ht : ¬ (l.length : Int) - k < K := by omega
          have HFL := Lib.hid (floorAt_skip floor HX.out (Nat.lt_of_not_le hg))
          have HOL := Lib.hid (outAt_skip (L := l ++ [e]) (Nat.lt_of_not_le hg))
          go_wp2_with fail
          go_roundw
          case rel => exact ⟨k + 1, by omega, by go_num, by rw [HFL.out], by rw [HOL.out]; exact HO.alloc _, HBx⟩
          case measure => simp [intOf]; omega
      · obtain rfl : k = l.length := by omega
        obtain rfl : e = x := by have := HX.out; simpa using this
        replace ce0 := bcs HB hWlt ce0
        replace ce1 := bcs HB hWlt ce1
        replace ce2 := bcs HB hWlt ce2
        by_cases hg : l.length + 1 - K ≤ l.length
        · have ht : (0 : Int) < K := by omega
          have ht2 : (l.length : Int) - l.length < K := by omega
          go_wp2_with (at_builtin; refine wpList_append_own _ rfl _ _ 22 rfl W.heap.size 26 i0 _ 3 32 Try.underlying22 hi hz0 hz1 hz2 rfl (by decide) u10 _ _ rfl HO2 ⟨wr.heap.size + 1, 0, none⟩ 1 1 (encE e) rfl rfl q5 (codecE.one e) HM.out HY.out (by simp; omega) ?_; intro v1 w1 hown1 hg1 _)
          have HFL := Lib.hid (floorAt_keep (L := l ++ [e]) floor hg)
          go_roundw
          case rel => exact ⟨l.length + 1, by omega, by go_num, by rw [HFL.out], FIN.out _ _ hown1 hg, HBxx.grown hg1 (by simp; omega) (fun j hj => (hlt j hj).1)⟩
          case measure => simp [intOf]
        · have ht : ¬ (0 : Int) < K := by omega
          have ht2 : ¬ (l.length : Int) - l.length < K := by omega
          have HFL := Lib.hid (floorAt_skip floor HX.out (Nat.lt_of_not_le hg))
          have HOL := Lib.hid (outAt_skip (L := l ++ [e]) (Nat.lt_of_not_le hg))
          go_wp2_with fail
          go_roundw
          case rel => exact ⟨l.length + 1, by omega, by go_num, by rw [HFL.out], by rw [HOL.out]; exact HO.alloc _, HBx⟩
          case measure => simp [intOf]
    · obtain rfl : k = l.length + 1 := by omega
      go_wp2_with fail
      go_ret2
      exact ⟨_, ret_pair HA.out.2.symm, by rw [HA.out.1]; exact HO.mono (by omega), HB0.trans (HB.mono (by omega))⟩
end Go.Proofs.Ytfpgkiajggfadaa
