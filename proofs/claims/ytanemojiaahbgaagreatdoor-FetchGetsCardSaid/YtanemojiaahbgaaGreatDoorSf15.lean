import Derived.Test.YtanemojiaahbgaaGreatDoorSf04
import Derived.Shelf.Strings.Cut
import Derived.Shelf.Strings.Fields
import Derived.Test.YtanemojiaahbgaaGreatDoorProg
section
/- The document's answer of what is found, walked. -/
set_option linter.unusedSimpArgs false
set_option linter.unusedVariables false
namespace Go.Proofs.YtanemojiaahbgaaGreatDoor
open Go.RowKit Go.OpenShut

set_option maxRecDepth 100000 in
set_option maxHeartbeats 2000000 in
theorem refGet_any (t : JV) (r : RV) (name : ByteArray) (w : World) (ht : TreeOf w w.heap.size t r) (ot : t.Ok) :
    Calls Tryz.prog 81 #[r.val, .string name] w (GetRet w (t.get name)) := by
  cases ht with
  | @mk _ l m rs rms hl el hcl hm em hcn hcm =>
  obtain ⟨k, n, s, pl, nl, cl, pm, nm, cm⟩ := r
  cases ot with
  | mk _ _ _ bl bm okl oks okm =>
  dsimp only [RV.val] at *
  have eM := rd_nlen hm
  have hA0 : VAt ((w.alloc (.cells #[.int .i64 k, .int .i64 n, .string s, .slice pl nl cl, .slice pm nm cm] 31)).alloc (.cells #[.int .i64 0, .int .i64 0, .string ⟨#[]⟩, .slice none 0 0, .slice none 0 0] 31)) w.heap.size ⟨k, n, s, pl, nl, cl, pm, nm, cm⟩ := heap_alloc_lt (by simp) (heap_alloc_at rfl)
  have hA1 : VAt ((w.alloc (.cells #[.int .i64 k, .int .i64 n, .string s, .slice pl nl cl, .slice pm nm cm] 31)).alloc (.cells #[.int .i64 0, .int .i64 0, .string ⟨#[]⟩, .slice none 0 0, .slice none 0 0] 31)) (w.heap.size + 1) RV.zero := heap_alloc_at (by simp)
  have hB0 := below2 w (.cells #[.int .i64 k, .int .i64 n, .string s, .slice pl nl cl, .slice pm nm cm] 31) (.cells #[.int .i64 0, .int .i64 0, .string ⟨#[]⟩, .slice none 0 0, .slice none 0 0] 31)
  have HN := Lib.hid hcn
  have HM := Lib.hid hm
  have HV := Lib.hid hcm
  have E2 : Hid (m.length = nm ∧ rms.length = nm) := ⟨by omega, by omega⟩
  have hnm : nm ≤ 1466015503658 := by omega
  have HG6 : Hid (k = 6 → (JV.mk k n s l m).place name = m.findIdx? (fun p => decide (p.1 = name)) ∧ (JV.mk k n s l m).mem = m) := by
    intro h
    have e : (JV.mk k n s l m).mem = m := by show (if k = 6 then m else []) = m; rw [if_pos h]
    exact ⟨by unfold JV.place; rw [e], e⟩
  have HGN : Hid (k ≠ 6 → (JV.mk k n s l m).get name = none) := by
    intro h
    have e : (JV.mk k n s l m).mem = [] := by show (if k = 6 then m else []) = []; rw [if_neg h]
    unfold JV.get JV.place; rw [e]; rfl
  clear hcl hcn hcm hl hm okl oks okm el em bl bm eM
  go_enter Tryz.func81, Tryz.ntmps81
  go_upto_region 1 with fail
  obtain ⟨W0, hW0⟩ : ∃ W0, ((w.alloc (.cells #[.int .i64 k, .int .i64 n, .string s, .slice pl nl cl, .slice pm nm cm] 31)).alloc (.cells #[.int .i64 0, .int .i64 0, .string ⟨#[]⟩, .slice none 0 0, .slice none 0 0] 31)) = W0 := ⟨_, rfl⟩
  rw [hW0] at hA0 hA1 hB0 ⊢
  clear hW0
  have hz := hA1.lt
  have c0 := hA0.cell 0 rfl
  have c4 := hA0.cell 4 rfl
  have z0 := hA1.cell 0 rfl
  have z1 := hA1.cell 1 rfl
  have z2 := hA1.cell 2 rfl
  have z3 := hA1.cell 3 rfl
  have z4 := hA1.cell 4 rfl
  dsimp only [RV.zero] at c0 c4 z0 z1 z2 z3 z4
  have y0 := hA1.frozen 0
  have y1 := hA1.frozen 1
  have y2 := hA1.frozen 2
  have y3 := hA1.frozen 3
  have y4 := hA1.frozen 4
  have HZ := Lib.hid hA1
  clear hA0 hA1
  by_cases hk : k = 6
  · subst hk
    have HPL := HG6
    clear HG6 HGN
    go_wp2_with fail
    go_loopw [6] (fun i wr => ∃ k : Nat, k ≤ nm ∧ i = .int .i64 k ∧ Hid (∀ (j : Nat) y, j < k → m[j]? = some y → decide (y.1 = name) = false) ∧ wr = W0) (fun i _ => nm - (intOf i).toNat)
    case atStart => exact ⟨0, Nat.zero_le _, rfl, fun j y h => by omega, rfl⟩
    case round =>
      obtain ⟨k, hk, rfl, hno, rfl⟩ := hrel
      by_cases hlt : k < nm
      · obtain ⟨tx, htx⟩ : ∃ x, m[k]? = some x := ⟨_, List.getElem?_eq_getElem (by have := E2.out; omega)⟩
        obtain ⟨x, hx⟩ : ∃ x, rms[k]? = some x := ⟨_, List.getElem?_eq_getElem (by have := E2.out; omega)⟩
        obtain ⟨b1, o1, rfl, hb1, hc1⟩ := rd_at' (HM.out.below hB0 (Nat.le_refl _)) hx
        have f0 := hc1 0 _ rfl
        have f1 := hc1 1 _ rfl
        have f2 := hc1 2 _ rfl
        have f3 := hc1 3 _ rfl
        have f4 := hc1 4 _ rfl
        have f5 := hc1 5 _ rfl
        rw [Nat.add_zero] at f0
        have en := HN.out k tx x htx hx
        have HTX := Lib.hid htx
        have HTV := Lib.hid ((HV.out k tx x htx hx).under hB0 (Nat.le_refl _))
        have hk0 : (0 : Int) ≤ (k : Int) := Int.natCast_nonneg _
        have hk1 : (k : Int) < (nm : Int) := by omega
        clear hc1 htx hx
        by_cases hnx : x.name = name
        · have hq : (x.name.toList == name.toList) = true := by rw [str_beq]; simpa using hnx
          have hfi := find_at (p := fun p : ByteArray × JV => decide (p.1 = name)) HTX.out (by rw [en]; simpa using hnx) hno.out
          have HG : Hid ((JV.mk 6 n s l m).get name = some tx.2) := by
            unfold Hid JV.get
            rw [(HPL.out (by simp)).1, hfi]
            show ((JV.mk 6 n s l m).mem[k]?).map (·.2) = _
            rw [(HPL.out (by simp)).2, HTX.out]; rfl
          clear hnx en hfi
          go_wp2_with fail
          refine bodyPost_ret (v := .tuple #[RV.val x.v, .bool true]) (by simp [results, Tryz.results81, go_sem, z0, z1, z2, z3, z4]) rfl ⟨x.v, true, rfl, by rw [HG.out]; rfl, ?_, Below.stored hB0 (by omega) x.v⟩
          rw [HG.out]
          exact HTV.out.under (Below.stored (Below.refl _ _) (by omega) x.v) (by have := hB0.size; simp; omega)
        · have hq : (x.name.toList == name.toList) = false := by rw [str_beq]; simpa using hnx
          have HNX : Hid (∀ (j : Nat) y, j < k + 1 → m[j]? = some y → decide (y.1 = name) = false) := by
            intro j y hj hy
            by_cases e : j = k
            · subst e
              have h := HTX.out
              rw [hy] at h
              cases h
              rw [en]; simpa using hnx
            · exact hno.out j y (by omega) hy
          clear hnx en
          go_wp2_with fail
          go_roundw
          case rel => exact ⟨k + 1, by omega, by go_num, HNX, trivial⟩
          case measure => simp [intOf]; omega
      · obtain rfl : k = nm := by omega
        have HF := find_not (p := fun p : ByteArray × JV => decide (p.1 = name)) (l := m) (fun j y hy => hno.out j y (by have := (List.getElem?_eq_some_iff.1 hy).1; have := E2.out; omega) hy)
        have HG : Hid ((JV.mk 6 n s l m).get name = none) := by
          unfold Hid JV.get
          rw [(HPL.out (by simp)).1, HF]; rfl
        clear HF
        go_wp2_with fail
        exact bodyPost_ret (v := .tuple #[RV.val RV.zero, .bool false]) (by simp [results, Tryz.results81, go_sem, RV.zero, z0, z1, z2, z3, z4]) rfl ⟨RV.zero, false, rfl, by rw [HG.out]; rfl, by rw [HG.out]; exact TreeOf.zero _ _, Below.stored hB0 (by omega) RV.zero⟩
  · have HG := Lib.hid (HGN.out hk)
    have hq : (k == 6) = false := by simpa using hk
    clear HG6 HGN hk
    go_wp2_with fail
    go_loopw [6] (fun i wr => i = .int .i64 0 ∧ wr = W0) (fun i _ => 0)
    case atStart => exact ⟨rfl, rfl⟩
    case round =>
      obtain ⟨rfl, rfl⟩ := hrel
      by_cases h0 : 0 < nm
      all_goals
        go_wp2_with fail
        exact bodyPost_ret (v := .tuple #[RV.val RV.zero, .bool false]) (by simp [results, Tryz.results81, go_sem, RV.zero, z0, z1, z2, z3, z4]) rfl ⟨RV.zero, false, rfl, by rw [HG.out]; rfl, by rw [HG.out]; exact TreeOf.zero _ _, Below.stored hB0 (by omega) RV.zero⟩
end Go.Proofs.YtanemojiaahbgaaGreatDoor
end

section
/- A member found, the tree under the bound it came with; walked. -/
set_option linter.unusedSimpArgs false
set_option linter.unusedVariables false
namespace Go.Proofs.YtanemojiaahbgaaGreatDoor
open Go.RowKit Go.OpenShut

/-- A value and a truth are told, the value under a bound. -/
def GetRetB (w : World) (B : Nat) (o : Option JV) (e : Ending) (w' : World) : Prop :=
  ∃ r b, e = .returned (.tuple #[RV.val r, .bool b]) ∧ b = o.isSome ∧ TreeOf w' B (o.getD JV.zero) r ∧ Below w.heap.size w w'
set_option maxRecDepth 100000 in
set_option maxHeartbeats 2000000 in
theorem getB_any (t : JV) (r : RV) (name : ByteArray) (w : World) (B : Nat) (hBw : B ≤ w.heap.size) (ht : TreeOf w B t r) (ot : t.Ok) :
    Calls Tryz.prog 42 #[r.val, .string name] w (GetRetB w B (t.get name)) := by
  obtain ⟨k, n, s, pl, nl, cl, pm, nm, cm⟩ := r
  dsimp only [RV.val] at *
  have HT := Lib.hid ht
  have HO := Lib.hid ot
  have hA0 : VAt ((w.alloc (.cells #[.int .i64 k, .int .i64 n, .string s, .slice pl nl cl, .slice pm nm cm] 31)).alloc (.cells #[.int .i64 0, .int .i64 0, .string ⟨#[]⟩, .slice none 0 0, .slice none 0 0] 31)) w.heap.size ⟨k, n, s, pl, nl, cl, pm, nm, cm⟩ := heap_alloc_lt (by simp) (heap_alloc_at rfl)
  have hA1 : VAt ((w.alloc (.cells #[.int .i64 k, .int .i64 n, .string s, .slice pl nl cl, .slice pm nm cm] 31)).alloc (.cells #[.int .i64 0, .int .i64 0, .string ⟨#[]⟩, .slice none 0 0, .slice none 0 0] 31)) (w.heap.size + 1) RV.zero := heap_alloc_at (by simp)
  have hB0 := below2 w (.cells #[.int .i64 k, .int .i64 n, .string s, .slice pl nl cl, .slice pm nm cm] 31) (.cells #[.int .i64 0, .int .i64 0, .string ⟨#[]⟩, .slice none 0 0, .slice none 0 0] 31)
  clear ht ot
  go_enter Tryz.func42, Tryz.ntmps42
  go_upto_region 1 with fail
  obtain ⟨W0, hW0⟩ : ∃ W0, ((w.alloc (.cells #[.int .i64 k, .int .i64 n, .string s, .slice pl nl cl, .slice pm nm cm] 31)).alloc (.cells #[.int .i64 0, .int .i64 0, .string ⟨#[]⟩, .slice none 0 0, .slice none 0 0] 31)) = W0 := ⟨_, rfl⟩
  rw [hW0] at hA0 hA1 hB0 ⊢
  clear hW0
  have p0 := hA0.cell 0 rfl
  have p1 := hA0.cell 1 rfl
  have p2 := hA0.cell 2 rfl
  have p3 := hA0.cell 3 rfl
  have p4 := hA0.cell 4 rfl
  go_upto_region 2 with (go_at_call 66; refine (place_any t ⟨k, n, s, pl, nl, cl, pm, nm, cm⟩ name _ (HT.out.under (hB0.mono hBw) (Nat.le_trans hBw hB0.size)) HO.out).mono ?_; rintro e w1 ⟨rfl, hb1⟩)
  have hzz : w.heap.size + 1 < W0.heap.size := hA1.lt
  have HA1 : VAt w1 (w.heap.size + 1) RV.zero := hA1.under hb1 hzz
  have HA0 : VAt w1 w.heap.size ⟨k, n, s, pl, nl, cl, pm, nm, cm⟩ := hA0.under hb1 (by omega)
  have HB1 := hB0.trans (hb1.mono hB0.size)
  have hTw := Lib.hid (HT.out.under (HB1.mono hBw) (Nat.le_refl _))
  clear p0 p1 p2 p3 p4 hA0 hA1 hB0 hb1
  have z0 := HA1.cell 0 rfl
  have z1 := HA1.cell 1 rfl
  have z2 := HA1.cell 2 rfl
  have z3 := HA1.cell 3 rfl
  have z4 := HA1.cell 4 rfl
  have y0 := HA1.frozen 0
  have y1 := HA1.frozen 1
  have y2 := HA1.frozen 2
  have y3 := HA1.frozen 3
  have y4 := HA1.frozen 4
  have p4 := HA0.cell 4 rfl
  dsimp only [RV.zero] at z0 z1 z2 z3 z4 p4
  have HZ := Lib.hid HA1
  clear HA1 HA0
  generalize hp : t.place name = o
  cases o with
  | none =>
    have HG : Hid (t.get name = none) := by unfold Hid JV.get; rw [hp]; rfl
    have hn : placeI (none : Option Nat) = -1 := rfl
    rw [hn]
    clear hp hn
    go_wp2_with fail
    have HZ2 := HZ.out.stored RV.zero
    refine bodyPost_ret (v := .tuple #[RV.val RV.zero, .bool false]) (by simp [results, Tryz.results42, go_sem, RV.zero, z0, z1, z2, z3, z4]) rfl ⟨RV.zero, false, rfl, by rw [HG.out]; rfl, by rw [HG.out]; exact TreeOf.zero _ _, Below.stored HB1 (by omega) RV.zero⟩
  | some i =>
    obtain ⟨p, hm1, hk6, hget⟩ := place_mem hp
    have HG := Lib.hid hget
    have hn : placeI (some i) = (i : Int) := rfl
    rw [hn]
    clear hp hn hget
    have hT2 := hTw.out
    generalize hr : (⟨k, n, s, pl, nl, cl, pm, nm, cm⟩ : RV) = r at hT2
    cases hT2 with
    | @mk _ l m rs rms hl el hcl hm em hcn hcm =>
    subst hr
    dsimp only [JV.m] at *
    have hi := (List.getElem?_eq_some_iff.1 hm1).1
    obtain ⟨q, hq⟩ : ∃ q, rms[i]? = some q := ⟨_, List.getElem?_eq_getElem (by omega)⟩
    obtain ⟨b1, o1, rfl, hb1, hc1⟩ := rd_at' hm hq
    have HTq := Lib.hid (hcm i p q hm1 hq)
    have f0 := hc1 0 _ rfl
    have f1 := hc1 1 _ rfl
    have f2 := hc1 2 _ rfl
    have f3 := hc1 3 _ rfl
    have f4 := hc1 4 _ rfl
    have f5 := hc1 5 _ rfl
    have hi0 : (0 : Int) ≤ (i : Int) := Int.natCast_nonneg _
    have hi1 : (i : Int) < (nm : Int) := by have := rd_nlen hm; omega
    clear hcl hcn hcm hl hm em el hc1 hm1 hq
    go_wp2_with fail
    have HZ2 := HZ.out.stored q.v
    have HBs : Below w1.heap.size w1 w1 := Below.refl _ _
    refine bodyPost_ret (v := .tuple #[RV.val q.v, .bool true]) (by simp [results, Tryz.results42, go_sem, z0, z1, z2, z3, z4]) rfl ⟨q.v, true, rfl, by rw [HG.out]; rfl, ?_, Below.stored HB1 (by omega) q.v⟩
    rw [HG.out]
    exact HTq.out.under (Below.stored (Below.refl _ _) (by omega) q.v) (Nat.le_refl _)
set_option maxRecDepth 100000 in
set_option maxHeartbeats 2000000 in
theorem refGetB_any (t : JV) (r : RV) (name : ByteArray) (w : World) (B : Nat) (hBw : B ≤ w.heap.size) (ht : TreeOf w B t r) (ot : t.Ok) :
    Calls Tryz.prog 81 #[r.val, .string name] w (GetRetB w B (t.get name)) := by
  cases ht with
  | @mk _ l m rs rms hl el hcl hm em hcn hcm =>
  obtain ⟨k, n, s, pl, nl, cl, pm, nm, cm⟩ := r
  cases ot with
  | mk _ _ _ bl bm okl oks okm =>
  dsimp only [RV.val] at *
  have eM := rd_nlen hm
  have hA0 : VAt ((w.alloc (.cells #[.int .i64 k, .int .i64 n, .string s, .slice pl nl cl, .slice pm nm cm] 31)).alloc (.cells #[.int .i64 0, .int .i64 0, .string ⟨#[]⟩, .slice none 0 0, .slice none 0 0] 31)) w.heap.size ⟨k, n, s, pl, nl, cl, pm, nm, cm⟩ := heap_alloc_lt (by simp) (heap_alloc_at rfl)
  have hA1 : VAt ((w.alloc (.cells #[.int .i64 k, .int .i64 n, .string s, .slice pl nl cl, .slice pm nm cm] 31)).alloc (.cells #[.int .i64 0, .int .i64 0, .string ⟨#[]⟩, .slice none 0 0, .slice none 0 0] 31)) (w.heap.size + 1) RV.zero := heap_alloc_at (by simp)
  have hB0 := below2 w (.cells #[.int .i64 k, .int .i64 n, .string s, .slice pl nl cl, .slice pm nm cm] 31) (.cells #[.int .i64 0, .int .i64 0, .string ⟨#[]⟩, .slice none 0 0, .slice none 0 0] 31)
  have HN := Lib.hid hcn
  have HM := Lib.hid hm
  have HV := Lib.hid hcm
  have E2 : Hid (m.length = nm ∧ rms.length = nm) := ⟨by omega, by omega⟩
  have hnm : nm ≤ 1466015503658 := by omega
  have HG6 : Hid (k = 6 → (JV.mk k n s l m).place name = m.findIdx? (fun p => decide (p.1 = name)) ∧ (JV.mk k n s l m).mem = m) := by
    intro h
    have e : (JV.mk k n s l m).mem = m := by show (if k = 6 then m else []) = m; rw [if_pos h]
    exact ⟨by unfold JV.place; rw [e], e⟩
  have HGN : Hid (k ≠ 6 → (JV.mk k n s l m).get name = none) := by
    intro h
    have e : (JV.mk k n s l m).mem = [] := by show (if k = 6 then m else []) = []; rw [if_neg h]
    unfold JV.get JV.place; rw [e]; rfl
  clear hcl hcn hcm hl hm okl oks okm el em bl bm eM
  go_enter Tryz.func81, Tryz.ntmps81
  go_upto_region 1 with fail
  obtain ⟨W0, hW0⟩ : ∃ W0, ((w.alloc (.cells #[.int .i64 k, .int .i64 n, .string s, .slice pl nl cl, .slice pm nm cm] 31)).alloc (.cells #[.int .i64 0, .int .i64 0, .string ⟨#[]⟩, .slice none 0 0, .slice none 0 0] 31)) = W0 := ⟨_, rfl⟩
  rw [hW0] at hA0 hA1 hB0 ⊢
  clear hW0
  have hz := hA1.lt
  have c0 := hA0.cell 0 rfl
  have c4 := hA0.cell 4 rfl
  have z0 := hA1.cell 0 rfl
  have z1 := hA1.cell 1 rfl
  have z2 := hA1.cell 2 rfl
  have z3 := hA1.cell 3 rfl
  have z4 := hA1.cell 4 rfl
  dsimp only [RV.zero] at c0 c4 z0 z1 z2 z3 z4
  have y0 := hA1.frozen 0
  have y1 := hA1.frozen 1
  have y2 := hA1.frozen 2
  have y3 := hA1.frozen 3
  have y4 := hA1.frozen 4
  have HZ := Lib.hid hA1
  clear hA0 hA1
  by_cases hk : k = 6
  · subst hk
    have HPL := HG6
    clear HG6 HGN
    go_wp2_with fail
    go_loopw [6] (fun i wr => ∃ k : Nat, k ≤ nm ∧ i = .int .i64 k ∧ Hid (∀ (j : Nat) y, j < k → m[j]? = some y → decide (y.1 = name) = false) ∧ wr = W0) (fun i _ => nm - (intOf i).toNat)
    case atStart => exact ⟨0, Nat.zero_le _, rfl, fun j y h => by omega, rfl⟩
    case round =>
      obtain ⟨k, hk, rfl, hno, rfl⟩ := hrel
      by_cases hlt : k < nm
      · obtain ⟨tx, htx⟩ : ∃ x, m[k]? = some x := ⟨_, List.getElem?_eq_getElem (by have := E2.out; omega)⟩
        obtain ⟨x, hx⟩ : ∃ x, rms[k]? = some x := ⟨_, List.getElem?_eq_getElem (by have := E2.out; omega)⟩
        obtain ⟨b1, o1, rfl, hb1, hc1⟩ := rd_at' (HM.out.below (hB0.mono hBw) (Nat.le_refl _)) hx
        have f0 := hc1 0 _ rfl
        have f1 := hc1 1 _ rfl
        have f2 := hc1 2 _ rfl
        have f3 := hc1 3 _ rfl
        have f4 := hc1 4 _ rfl
        have f5 := hc1 5 _ rfl
        rw [Nat.add_zero] at f0
        have en := HN.out k tx x htx hx
        have HTX := Lib.hid htx
        have HTV := Lib.hid ((HV.out k tx x htx hx).under (hB0.mono hBw) (Nat.le_refl _))
        have hk0 : (0 : Int) ≤ (k : Int) := Int.natCast_nonneg _
        have hk1 : (k : Int) < (nm : Int) := by omega
        clear hc1 htx hx
        by_cases hnx : x.name = name
        · have hq : (x.name.toList == name.toList) = true := by rw [str_beq]; simpa using hnx
          have hfi := find_at (p := fun p : ByteArray × JV => decide (p.1 = name)) HTX.out (by rw [en]; simpa using hnx) hno.out
          have HG : Hid ((JV.mk 6 n s l m).get name = some tx.2) := by
            unfold Hid JV.get
            rw [(HPL.out (by simp)).1, hfi]
            show ((JV.mk 6 n s l m).mem[k]?).map (·.2) = _
            rw [(HPL.out (by simp)).2, HTX.out]; rfl
          clear hnx en hfi
          go_wp2_with fail
          refine bodyPost_ret (v := .tuple #[RV.val x.v, .bool true]) (by simp [results, Tryz.results81, go_sem, z0, z1, z2, z3, z4]) rfl ⟨x.v, true, rfl, by rw [HG.out]; rfl, ?_, Below.stored hB0 (by omega) x.v⟩
          rw [HG.out]
          exact HTV.out.under (Below.stored (Below.refl _ _) (by omega) x.v) (Nat.le_refl _)
        · have hq : (x.name.toList == name.toList) = false := by rw [str_beq]; simpa using hnx
          have HNX : Hid (∀ (j : Nat) y, j < k + 1 → m[j]? = some y → decide (y.1 = name) = false) := by
            intro j y hj hy
            by_cases e : j = k
            · subst e
              have h := HTX.out
              rw [hy] at h
              cases h
              rw [en]; simpa using hnx
            · exact hno.out j y (by omega) hy
          clear hnx en
          go_wp2_with fail
          go_roundw
          case rel => exact ⟨k + 1, by omega, by go_num, HNX, trivial⟩
          case measure => simp [intOf]; omega
      · obtain rfl : k = nm := by omega
        have HF := find_not (p := fun p : ByteArray × JV => decide (p.1 = name)) (l := m) (fun j y hy => hno.out j y (by have := (List.getElem?_eq_some_iff.1 hy).1; have := E2.out; omega) hy)
        have HG : Hid ((JV.mk 6 n s l m).get name = none) := by
          unfold Hid JV.get
          rw [(HPL.out (by simp)).1, HF]; rfl
        clear HF
        go_wp2_with fail
        exact bodyPost_ret (v := .tuple #[RV.val RV.zero, .bool false]) (by simp [results, Tryz.results81, go_sem, RV.zero, z0, z1, z2, z3, z4]) rfl ⟨RV.zero, false, rfl, by rw [HG.out]; rfl, by rw [HG.out]; exact TreeOf.zero _ _, Below.stored hB0 (by omega) RV.zero⟩
  · have HG := Lib.hid (HGN.out hk)
    have hq : (k == 6) = false := by simpa using hk
    clear HG6 HGN hk
    go_wp2_with fail
    go_loopw [6] (fun i wr => i = .int .i64 0 ∧ wr = W0) (fun i _ => 0)
    case atStart => exact ⟨rfl, rfl⟩
    case round =>
      obtain ⟨rfl, rfl⟩ := hrel
      by_cases h0 : 0 < nm
      all_goals
        go_wp2_with fail
        exact bodyPost_ret (v := .tuple #[RV.val RV.zero, .bool false]) (by simp [results, Tryz.results81, go_sem, RV.zero, z0, z1, z2, z3, z4]) rfl ⟨RV.zero, false, rfl, by rw [HG.out]; rfl, by rw [HG.out]; exact TreeOf.zero _ _, Below.stored hB0 (by omega) RV.zero⟩

end Go.Proofs.YtanemojiaahbgaaGreatDoor
end

section
/- Contracts of the library at this seat's numbers (the records were written by the kit's lay-shelf.mjs and lay-plain.mjs). -/
set_option linter.unusedSimpArgs false
set_option linter.unusedVariables false
namespace Go.Proofs.YtanemojiaahbgaaGreatDoor
open Go Go.Shelf
def lays145_ren : Go.Shelf.Ren := ⟨fun | 145 => 76 | 220 => 95 | 219 => 112 | 217 => 83 | 225 => 123 | 224 => 124 | 267 => 125 | 266 => 103 | 314 => 128 | n => n, fun | 9 => 9 | 4 => 4 | 59 => 123 | 3 => 3 | 5 => 5 | 46 => 156 | 146 => 188 | 51 => 160 | n => n, fun | 1 => 2 | n => n⟩
theorem lays145 : Go.Proofs.Lays.n145 Tryz.prog lays145_ren := {
  mixed := by kernel_rfl
  f145 := Tryz.func76.trans (congrArg some (by kernel_rfl))
  f217 := Tryz.func83.trans (congrArg some (by kernel_rfl))
  f219 := Tryz.func112.trans (congrArg some (by kernel_rfl))
  f220 := Tryz.func95.trans (congrArg some (by kernel_rfl))
  f224 := Tryz.func124.trans (congrArg some (by kernel_rfl))
  f225 := Tryz.func123.trans (congrArg some (by kernel_rfl))
  f266 := Tryz.func103.trans (congrArg some (by kernel_rfl))
  f267 := Tryz.func125.trans (congrArg some (by kernel_rfl))
  f314 := Tryz.func128.trans (congrArg some (by kernel_rfl))
  t3 := Tryz.underlying3
  a3 := Tryz.isAgg3
  z3 := Tryz.sizeOf3
  v3 := Tryz.zeroValue3
  t4 := Tryz.underlying4
  a4 := Tryz.isAgg4
  z4 := Tryz.sizeOf4
  v4 := Tryz.zeroValue4
  t5 := Tryz.underlying5
  a5 := Tryz.isAgg5
  z5 := Tryz.sizeOf5
  v5 := Tryz.zeroValue5
  t9 := Tryz.underlying9
  a9 := Tryz.isAgg9
  z9 := Tryz.sizeOf9
  v9 := Tryz.zeroValue9
  t46 := Tryz.underlying156
  a46 := Tryz.isAgg156
  z46 := Tryz.sizeOf156
  v46 := Tryz.zeroValue156
  t51 := Tryz.underlying160
  a51 := Tryz.isAgg160
  z51 := Tryz.sizeOf160
  v51 := Tryz.zeroValue160
  t59 := Tryz.underlying123
  a59 := Tryz.isAgg123
  z59 := Tryz.sizeOf123
  v59 := Tryz.zeroValue123
  t146 := Tryz.underlying188
  a146 := Tryz.isAgg188
  z146 := Tryz.sizeOf188
  v146 := Tryz.zeroValue188
  g1 := by kernel_rfl }
open Go.RowKit Go.Lib in
theorem strings_Cut (s sep : ByteArray) (m : Int) (w : World) (hs : s.size < 4294967281) (hm : w.cell? ⟨2, 0, none⟩ = some (.int .i64 m)) :
    Calls Tryz.prog 76 #[.string s, .string sep] w fun e w' => e = .returned (.tuple #[.string ⟨(Lib.cut s.data.toList sep.data.toList).1.toArray⟩, .string ⟨(Lib.cut s.data.toList sep.data.toList).2.1.toArray⟩, .bool (Lib.cut s.data.toList sep.data.toList).2.2]) ∧ ∃ n, w' = w.drewN n := Any.strings_Cut lays145 s sep m w hs hm
def lays157_ren : Go.Shelf.Ren := ⟨fun | 157 => 75 | 229 => 93 | 199 => 94 | 261 => 111 | 311 => 121 | 312 => 122 | n => n, fun | 9 => 9 | 31 => 41 | 3 => 3 | 5 => 5 | 4 => 4 | 119 => 141 | 0 => 0 | 40 => 143 | 152 => 157 | 21 => 21 | 154 => 159 | 51 => 160 | 141 => 162 | 196 => 175 | 193 => 172 | 198 => 178 | 49 => 176 | 194 => 173 | 201 => 181 | 226 => 186 | 46 => 156 | 227 => 187 | n => n, fun | 0 => 0 | 6 => 1 | n => n⟩
theorem lays157 : Go.Proofs.Lays.n157 Tryz.prog lays157_ren := {
  mixed := by kernel_rfl
  f157 := Tryz.func75.trans (congrArg some (by kernel_rfl))
  f199 := Tryz.func94.trans (congrArg some (by kernel_rfl))
  f229 := Tryz.func93.trans (congrArg some (by kernel_rfl))
  f261 := Tryz.func111.trans (congrArg some (by kernel_rfl))
  f311 := Tryz.func121.trans (congrArg some (by kernel_rfl))
  f312 := Tryz.func122.trans (congrArg some (by kernel_rfl))
  t0 := Tryz.underlying0
  a0 := Tryz.isAgg0
  z0 := Tryz.sizeOf0
  v0 := Tryz.zeroValue0
  t3 := Tryz.underlying3
  a3 := Tryz.isAgg3
  z3 := Tryz.sizeOf3
  v3 := Tryz.zeroValue3
  t4 := Tryz.underlying4
  a4 := Tryz.isAgg4
  z4 := Tryz.sizeOf4
  v4 := Tryz.zeroValue4
  t5 := Tryz.underlying5
  a5 := Tryz.isAgg5
  z5 := Tryz.sizeOf5
  v5 := Tryz.zeroValue5
  t9 := Tryz.underlying9
  a9 := Tryz.isAgg9
  z9 := Tryz.sizeOf9
  v9 := Tryz.zeroValue9
  t21 := Tryz.underlying21
  a21 := Tryz.isAgg21
  z21 := Tryz.sizeOf21
  v21 := Tryz.zeroValue21
  t31 := Tryz.underlying41
  a31 := Tryz.isAgg41
  z31 := Tryz.sizeOf41
  v31 := Tryz.zeroValue41
  t40 := Tryz.underlying143
  a40 := Tryz.isAgg143
  z40 := Tryz.sizeOf143
  v40 := Tryz.zeroValue143
  t46 := Tryz.underlying156
  a46 := Tryz.isAgg156
  z46 := Tryz.sizeOf156
  v46 := Tryz.zeroValue156
  t49 := Tryz.underlying176
  a49 := Tryz.isAgg176
  z49 := Tryz.sizeOf176
  v49 := Tryz.zeroValue176
  t51 := Tryz.underlying160
  a51 := Tryz.isAgg160
  z51 := Tryz.sizeOf160
  v51 := Tryz.zeroValue160
  t119 := Tryz.underlying141
  a119 := Tryz.isAgg141
  z119 := Tryz.sizeOf141
  t141 := Tryz.underlying162
  a141 := Tryz.isAgg162
  z141 := Tryz.sizeOf162
  v141 := Tryz.zeroValue162
  t152 := Tryz.underlying157
  a152 := Tryz.isAgg157
  z152 := Tryz.sizeOf157
  v152 := Tryz.zeroValue157
  t154 := Tryz.underlying159
  a154 := Tryz.isAgg159
  z154 := Tryz.sizeOf159
  v154 := Tryz.zeroValue159
  t193 := Tryz.underlying172
  a193 := Tryz.isAgg172
  z193 := Tryz.sizeOf172
  v193 := Tryz.zeroValue172
  t194 := Tryz.underlying173
  a194 := Tryz.isAgg173
  z194 := Tryz.sizeOf173
  v194 := Tryz.zeroValue173
  t196 := Tryz.underlying175
  a196 := Tryz.isAgg175
  z196 := Tryz.sizeOf175
  v196 := Tryz.zeroValue175
  t198 := Tryz.underlying178
  a198 := Tryz.isAgg178
  z198 := Tryz.sizeOf178
  v198 := Tryz.zeroValue178
  t201 := Tryz.underlying181
  a201 := Tryz.isAgg181
  z201 := Tryz.sizeOf181
  v201 := Tryz.zeroValue181
  t226 := Tryz.underlying186
  a226 := Tryz.isAgg186
  z226 := Tryz.sizeOf186
  v226 := Tryz.zeroValue186
  t227 := Tryz.underlying187
  a227 := Tryz.isAgg187
  z227 := Tryz.sizeOf187
  v227 := Tryz.zeroValue187
  g0 := by kernel_rfl
  g6 := by kernel_rfl }
open Go.RowKit Go.Lib in
theorem strings_Fields (s : ByteArray) (w : World) (hs : s.size < 4294967281) (hascii : ∀ (j : Nat) b, s.data.toList[j]? = some b → b.toNat < 128) (htab : Lib.TabIs Tryz.prog w "strings.asciiSpace" .u8 Lib.asciiSpaceTab) :
    Calls Tryz.prog 75 #[.string s] w fun e w' =>
      e = .returned (.slice (some ⟨w.heap.size, 0, none⟩) (Lib.fields s.data.toList).length (Lib.fields s.data.toList).length) ∧ w' = w.alloc (.cells ((Lib.fields s.data.toList).map fun l => Value.string ⟨l.toArray⟩).toArray 9) := Any.strings_Fields lays157 (by kernel_rfl) (by kernel_rfl) s w hs hascii htab
end Go.Proofs.YtanemojiaahbgaaGreatDoor
end
