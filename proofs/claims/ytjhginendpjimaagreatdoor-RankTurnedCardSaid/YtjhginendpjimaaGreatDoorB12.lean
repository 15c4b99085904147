import Derived.Test.YtjhginendpjimaaGreatDoorB02
import Derived.Test.YtjhginendpjimaaGreatDoorB11
import Derived.Lib.Bytealg
set_option linter.unusedSimpArgs false
set_option linter.unusedVariables false
set_option maxRecDepth 200000
set_option maxHeartbeats 8000000
namespace Go.Proofs.YtjhginendpjimaaGreatDoor
section
open Go.RowKit Go.OpenShut
theorem refGet_any (t : JV) (r : RV) (name : ByteArray) (w : World) (ht : TreeOf w w.heap.size t r) (ot : t.Ok) :
 Calls Tryz.prog 56 #[r.val, .string name] w (GetRet w (t.get name)) := by
 cases ht with
 | @mk _ l m rs rms hl el hcl hm em hcn hcm =>
 obtain ⟨k, n, s, pl, nl, cl, pm, nm, cm⟩ := r
 cases ot with
 | mk _ _ _ bl bm okl oks okm =>
 dsimp only [RV.val] at *
 have eM := rd_nlen hm
 have hA0 : VAt ((w.alloc (.cells #[.int .i64 k, .int .i64 n, .string s, .slice pl nl cl, .slice pm nm cm] 25)).alloc (.cells #[.int .i64 0, .int .i64 0, .string ⟨#[]⟩, .slice none 0 0, .slice none 0 0] 25)) w.heap.size ⟨k, n, s, pl, nl, cl, pm, nm, cm⟩ := heap_alloc_lt (by simp) (heap_alloc_at rfl)
 have hA1 : VAt ((w.alloc (.cells #[.int .i64 k, .int .i64 n, .string s, .slice pl nl cl, .slice pm nm cm] 25)).alloc (.cells #[.int .i64 0, .int .i64 0, .string ⟨#[]⟩, .slice none 0 0, .slice none 0 0] 25)) (w.heap.size + 1) RV.zero := heap_alloc_at (by simp)
 have hB0 := below2 w (.cells #[.int .i64 k, .int .i64 n, .string s, .slice pl nl cl, .slice pm nm cm] 25) (.cells #[.int .i64 0, .int .i64 0, .string ⟨#[]⟩, .slice none 0 0, .slice none 0 0] 25)
 have HN := Lib.hid hcn
 have HM := Lib.hid hm
 have HV := Lib.hid hcm
 have E2 : Hid (m.length = nm /\ rms.length = nm) := ⟨by omega, by omega⟩
 have hnm : nm <= 1466015503658 := by omega
 have HG6 : Hid (k = 6 -> (JV.mk k n s l m).place name = m.findIdx? (fun p => decide (p.1 = name)) /\ (JV.mk k n s l m).mem = m) := by
  intro h
  have e : (JV.mk k n s l m).mem = m := by show (if k = 6 then m else []) = m; rw [if_pos h]
  exact ⟨by unfold JV.place; rw [e], e⟩
 have HGN : Hid (k ≠ 6 -> (JV.mk k n s l m).get name = none) := by
  intro h
  have e : (JV.mk k n s l m).mem = [] := by show (if k = 6 then m else []) = []; rw [if_neg h]
  unfold JV.get JV.place; rw [e]; rfl
 clear hcl hcn hcm hl hm okl oks okm el em bl bm eM
 go_enter Tryz.func56, Tryz.ntmps56
 go_upto_region 1 with fail
 obtain ⟨W0, hW0⟩ : ∃ W0, ((w.alloc (.cells #[.int .i64 k, .int .i64 n, .string s, .slice pl nl cl, .slice pm nm cm] 25)).alloc (.cells #[.int .i64 0, .int .i64 0, .string ⟨#[]⟩, .slice none 0 0, .slice none 0 0] 25)) = W0 := ⟨_, rfl⟩
 rw [hW0] at hA0 hA1 hB0 ⊢
 clear hW0
 have hz := hA1.lt
 have c0 := hA0.cell 0 rfl
 have c4 := hA0.cell 4 rfl
 obtain ⟨z0, z1, z2, z3, z4⟩ := hA1.cells5
 dsimp only [RV.zero] at c0 c4 z0 z1 z2 z3 z4
 have y0 := hA1.frozen 0
 have y1 := hA1.frozen 1
 have y2 := hA1.frozen 2
 have y3 := hA1.frozen 3
 have y4 := hA1.frozen 4
 have HZ := Lib.hid hA1
 clear hA0 hA1
 by_cases hk : k = 6
 ·subst hk
  have HPL := HG6
  clear HG6 HGN
  go_wp2_with fail
  go_loopw [6] (fun i wr => ∃ k : Nat, k <= nm /\ i = .int .i64 k /\ Hid (∀ (j : Nat) y, j < k -> m[j]? = some y -> decide (y.1 = name) = false) /\ wr = W0) (fun i _ => nm - (intOf i).toNat)
  case atStart => exact ⟨0, Nat.zero_le _, rfl, fun j y h => by omega, rfl⟩
  case round =>
   obtain ⟨k, hk, rfl, hno, rfl⟩ := hrel
   by_cases hlt : k < nm
   ·obtain ⟨tx, htx⟩ : ∃ x, m[k]? = some x := ⟨_, List.getElem?_eq_getElem (by have := E2.out; omega)⟩
    obtain ⟨x, hx⟩ : ∃ x, rms[k]? = some x := ⟨_, List.getElem?_eq_getElem (by have := E2.out; omega)⟩
    obtain ⟨b1, o1, rfl, hb1, hc1⟩ := rd_at' (HM.out.below hB0 (Nat.le_refl _)) hx
    have f0 := hc1 0 _ rfl
    have f1 := hc1 1 _ rfl
    have f2 := hc1 2 _ rfl
    have f3 := hc1 3 _ rfl
    have f4 := hc1 4 _ rfl
    have f5 := hc1 5 _ rfl
    rw [Nat.add_zero] at f0
    have en := HN.out k tx x htx hx
    have HTX := Lib.hid htx
    have HTV := Lib.hid ((HV.out k tx x htx hx).under hB0 (Nat.le_refl _))
    have hk0 : (0 : Int) <= (k : Int) := Int.natCast_nonneg _
    have hk1 : (k : Int) < (nm : Int) := by omega
    clear hc1 htx hx
    by_cases hnx : x.name = name
    ·have hq : (x.name.toList == name.toList) = true := by rw [str_beq]; simpa using hnx
     have hfi := find_at (p := fun p : ByteArray × JV => decide (p.1 = name)) HTX.out (by rw [en]; simpa using hnx) hno.out
     have HG : Hid ((JV.mk 6 n s l m).get name = some tx.2) := by
      unfold Hid JV.get
      rw [(HPL.out (by simp)).1, hfi]
      show ((JV.mk 6 n s l m).mem[k]?).map (·.2) = _
      rw [(HPL.out (by simp)).2, HTX.out]; rfl
     clear hnx en hfi
     go_wp2_with fail
     refine bodyPost_ret (v := .tuple #[RV.val x.v, .bool true]) (by simp [results, Tryz.results56, go_sem, z0, z1, z2, z3, z4]) rfl ⟨x.v, true, rfl, by rw [HG.out]; rfl, ?_, Below.stored hB0 (by omega) x.v⟩
     rw [HG.out]
     exact HTV.out.under (Below.stored (Below.refl _ _) (by omega) x.v) (by have := hB0.size; simp; omega)
    ·have hq : (x.name.toList == name.toList) = false := by rw [str_beq]; simpa using hnx
     have HNX : Hid (∀ (j : Nat) y, j < k + 1 -> m[j]? = some y -> decide (y.1 = name) = false) := by
      intro j y hj hy
      by_cases e : j = k
      ·subst e
       have h := HTX.out
       rw [hy] at h
       cases h
       rw [en]; simpa using hnx
      ·exact hno.out j y (by omega) hy
     clear hnx en
     go_wp2_with fail
     go_roundw
     case rel => exact ⟨k + 1, by omega, by go_num, HNX, trivial⟩
     case measure => simp [intOf]; omega
   ·obtain rfl : k = nm := by omega
    have HF := find_not (p := fun p : ByteArray × JV => decide (p.1 = name)) (l := m) (fun j y hy => hno.out j y (by have := (List.getElem?_eq_some_iff.1 hy).1; have := E2.out; omega) hy)
    have HG : Hid ((JV.mk 6 n s l m).get name = none) := by
     unfold Hid JV.get
     rw [(HPL.out (by simp)).1, HF]; rfl
    clear HF
    go_wp2_with fail
    exact bodyPost_ret (v := .tuple #[RV.val RV.zero, .bool false]) (by simp [results, Tryz.results56, go_sem, RV.zero, z0, z1, z2, z3, z4]) rfl ⟨RV.zero, false, rfl, by rw [HG.out]; rfl, by rw [HG.out]; exact TreeOf.zero _ _, Below.stored hB0 (by omega) RV.zero⟩
 ·have HG := Lib.hid (HGN.out hk)
  have hq : (k == 6) = false := by simpa using hk
  clear HG6 HGN hk
  go_wp2_with fail
  go_loopw [6] (fun i wr => i = .int .i64 0 /\ wr = W0) (fun i _ => 0)
  case atStart => exact ⟨rfl, rfl⟩
  case round =>
   obtain ⟨rfl, rfl⟩ := hrel
   by_cases h0 : 0 < nm
   all_goals
    go_wp2_with fail
    exact bodyPost_ret (v := .tuple #[RV.val RV.zero, .bool false]) (by simp [results, Tryz.results56, go_sem, RV.zero, z0, z1, z2, z3, z4]) rfl ⟨RV.zero, false, rfl, by rw [HG.out]; rfl, by rw [HG.out]; exact TreeOf.zero _ _, Below.stored hB0 (by omega) RV.zero⟩
def GetRetB (w : World) (B : Nat) (o : Option JV) (e : Ending) (w' : World) : Prop :=
 ∃ r b, e = .returned (.tuple #[RV.val r, .bool b]) /\ b = o.isSome /\ TreeOf w' B (o.getD JV.zero) r /\ Below w.heap.size w w'
theorem getB_any (t : JV) (r : RV) (name : ByteArray) (w : World) (B : Nat) (hBw : B <= w.heap.size) (ht : TreeOf w B t r) (ot : t.Ok) :
 Calls Tryz.prog 22 #[r.val, .string name] w (GetRetB w B (t.get name)) := by
 obtain ⟨k, n, s, pl, nl, cl, pm, nm, cm⟩ := r
 dsimp only [RV.val] at *
 have HT := Lib.hid ht
 have HO := Lib.hid ot
 have hA0 : VAt ((w.alloc (.cells #[.int .i64 k, .int .i64 n, .string s, .slice pl nl cl, .slice pm nm cm] 25)).alloc (.cells #[.int .i64 0, .int .i64 0, .string ⟨#[]⟩, .slice none 0 0, .slice none 0 0] 25)) w.heap.size ⟨k, n, s, pl, nl, cl, pm, nm, cm⟩ := heap_alloc_lt (by simp) (heap_alloc_at rfl)
 have hA1 : VAt ((w.alloc (.cells #[.int .i64 k, .int .i64 n, .string s, .slice pl nl cl, .slice pm nm cm] 25)).alloc (.cells #[.int .i64 0, .int .i64 0, .string ⟨#[]⟩, .slice none 0 0, .slice none 0 0] 25)) (w.heap.size + 1) RV.zero := heap_alloc_at (by simp)
 have hB0 := below2 w (.cells #[.int .i64 k, .int .i64 n, .string s, .slice pl nl cl, .slice pm nm cm] 25) (.cells #[.int .i64 0, .int .i64 0, .string ⟨#[]⟩, .slice none 0 0, .slice none 0 0] 25)
 clear ht ot
 go_enter Tryz.func22, Tryz.ntmps22
 go_upto_region 1 with fail
 obtain ⟨W0, hW0⟩ : ∃ W0, ((w.alloc (.cells #[.int .i64 k, .int .i64 n, .string s, .slice pl nl cl, .slice pm nm cm] 25)).alloc (.cells #[.int .i64 0, .int .i64 0, .string ⟨#[]⟩, .slice none 0 0, .slice none 0 0] 25)) = W0 := ⟨_, rfl⟩
 rw [hW0] at hA0 hA1 hB0 ⊢
 clear hW0
 obtain ⟨p0, p1, p2, p3, p4⟩ := hA0.cells5
 go_upto_region 2 with (go_at_call 42; refine (place_any t ⟨k, n, s, pl, nl, cl, pm, nm, cm⟩ name _ (HT.out.under (hB0.mono hBw) (Nat.le_trans hBw hB0.size)) HO.out).mono ?_; rintro e w1 ⟨rfl, hb1⟩)
 have hzz : w.heap.size + 1 < W0.heap.size := hA1.lt
 have HA1 : VAt w1 (w.heap.size + 1) RV.zero := hA1.under hb1 hzz
 have HA0 : VAt w1 w.heap.size ⟨k, n, s, pl, nl, cl, pm, nm, cm⟩ := hA0.under hb1 (by omega)
 have HB1 := hB0.trans (hb1.mono hB0.size)
 have hTw := Lib.hid (HT.out.under (HB1.mono hBw) (Nat.le_refl _))
 clear p0 p1 p2 p3 p4 hA0 hA1 hB0 hb1
 obtain ⟨z0, z1, z2, z3, z4⟩ := HA1.cells5
 have y0 := HA1.frozen 0
 have y1 := HA1.frozen 1
 have y2 := HA1.frozen 2
 have y3 := HA1.frozen 3
 have y4 := HA1.frozen 4
 have p4 := HA0.cell 4 rfl
 dsimp only [RV.zero] at z0 z1 z2 z3 z4 p4
 have HZ := Lib.hid HA1
 clear HA1 HA0
 generalize hp : t.place name = o
 cases o with
 | none =>
   have HG : Hid (t.get name = none) := by unfold Hid JV.get; rw [hp]; rfl
   have hn : placeI (none : Option Nat) = -1 := rfl
   rw [hn]
   clear hp hn
   go_wp2_with fail
   have HZ2 := HZ.out.stored RV.zero
   refine bodyPost_ret (v := .tuple #[RV.val RV.zero, .bool false]) (by simp [results, Tryz.results22, go_sem, RV.zero, z0, z1, z2, z3, z4]) rfl ⟨RV.zero, false, rfl, by rw [HG.out]; rfl, by rw [HG.out]; exact TreeOf.zero _ _, Below.stored HB1 (by omega) RV.zero⟩
 | some i =>
   obtain ⟨p, hm1, hk6, hget⟩ := place_mem hp
   have HG := Lib.hid hget
   have hn : placeI (some i) = (i : Int) := rfl
   rw [hn]
   clear hp hn hget
   have hT2 := hTw.out
   generalize hr : (⟨k, n, s, pl, nl, cl, pm, nm, cm⟩ : RV) = r at hT2
   cases hT2 with
   | @mk _ l m rs rms hl el hcl hm em hcn hcm =>
   subst hr
   dsimp only [JV.m] at *
   have hi := (List.getElem?_eq_some_iff.1 hm1).1
   obtain ⟨q, hq⟩ : ∃ q, rms[i]? = some q := ⟨_, List.getElem?_eq_getElem (by omega)⟩
   obtain ⟨b1, o1, rfl, hb1, hc1⟩ := rd_at' hm hq
   have HTq := Lib.hid (hcm i p q hm1 hq)
   have f0 := hc1 0 _ rfl
   have f1 := hc1 1 _ rfl
   have f2 := hc1 2 _ rfl
   have f3 := hc1 3 _ rfl
   have f4 := hc1 4 _ rfl
   have f5 := hc1 5 _ rfl
   have hi0 : (0 : Int) <= (i : Int) := Int.natCast_nonneg _
   have hi1 : (i : Int) < (nm : Int) := by have := rd_nlen hm; omega
   clear hcl hcn hcm hl hm em el hc1 hm1 hq
   go_wp2_with fail
   have HZ2 := HZ.out.stored q.v
   have HBs : Below w1.heap.size w1 w1 := Below.refl _ _
   refine bodyPost_ret (v := .tuple #[RV.val q.v, .bool true]) (by simp [results, Tryz.results22, go_sem, z0, z1, z2, z3, z4]) rfl ⟨q.v, true, rfl, by rw [HG.out]; rfl, ?_, Below.stored HB1 (by omega) q.v⟩
   rw [HG.out]
   exact HTq.out.under (Below.stored (Below.refl _ _) (by omega) q.v) (Nat.le_refl _)
theorem refGetB_any (t : JV) (r : RV) (name : ByteArray) (w : World) (B : Nat) (hBw : B <= w.heap.size) (ht : TreeOf w B t r) (ot : t.Ok) :
 Calls Tryz.prog 56 #[r.val, .string name] w (GetRetB w B (t.get name)) := by
 cases ht with
 | @mk _ l m rs rms hl el hcl hm em hcn hcm =>
 obtain ⟨k, n, s, pl, nl, cl, pm, nm, cm⟩ := r
 cases ot with
 | mk _ _ _ bl bm okl oks okm =>
 dsimp only [RV.val] at *
 have eM := rd_nlen hm
 have hA0 : VAt ((w.alloc (.cells #[.int .i64 k, .int .i64 n, .string s, .slice pl nl cl, .slice pm nm cm] 25)).alloc (.cells #[.int .i64 0, .int .i64 0, .string ⟨#[]⟩, .slice none 0 0, .slice none 0 0] 25)) w.heap.size ⟨k, n, s, pl, nl, cl, pm, nm, cm⟩ := heap_alloc_lt (by simp) (heap_alloc_at rfl)
 have hA1 : VAt ((w.alloc (.cells #[.int .i64 k, .int .i64 n, .string s, .slice pl nl cl, .slice pm nm cm] 25)).alloc (.cells #[.int .i64 0, .int .i64 0, .string ⟨#[]⟩, .slice none 0 0, .slice none 0 0] 25)) (w.heap.size + 1) RV.zero := heap_alloc_at (by simp)
 have hB0 := below2 w (.cells #[.int .i64 k, .int .i64 n, .string s, .slice pl nl cl, .slice pm nm cm] 25) (.cells #[.int .i64 0, .int .i64 0, .string ⟨#[]⟩, .slice none 0 0, .slice none 0 0] 25)
 have HN := Lib.hid hcn
 have HM := Lib.hid hm
 have HV := Lib.hid hcm
 have E2 : Hid (m.length = nm /\ rms.length = nm) := ⟨by omega, by omega⟩
 have hnm : nm <= 1466015503658 := by omega
 have HG6 : Hid (k = 6 -> (JV.mk k n s l m).place name = m.findIdx? (fun p => decide (p.1 = name)) /\ (JV.mk k n s l m).mem = m) := by
  intro h
  have e : (JV.mk k n s l m).mem = m := by show (if k = 6 then m else []) = m; rw [if_pos h]
  exact ⟨by unfold JV.place; rw [e], e⟩
 have HGN : Hid (k ≠ 6 -> (JV.mk k n s l m).get name = none) := by
  intro h
  have e : (JV.mk k n s l m).mem = [] := by show (if k = 6 then m else []) = []; rw [if_neg h]
  unfold JV.get JV.place; rw [e]; rfl
 clear hcl hcn hcm hl hm okl oks okm el em bl bm eM
 go_enter Tryz.func56, Tryz.ntmps56
 go_upto_region 1 with fail
 obtain ⟨W0, hW0⟩ : ∃ W0, ((w.alloc (.cells #[.int .i64 k, .int .i64 n, .string s, .slice pl nl cl, .slice pm nm cm] 25)).alloc (.cells #[.int .i64 0, .int .i64 0, .string ⟨#[]⟩, .slice none 0 0, .slice none 0 0] 25)) = W0 := ⟨_, rfl⟩
 rw [hW0] at hA0 hA1 hB0 ⊢
 clear hW0
 have hz := hA1.lt
 have c0 := hA0.cell 0 rfl
 have c4 := hA0.cell 4 rfl
 obtain ⟨z0, z1, z2, z3, z4⟩ := hA1.cells5
 dsimp only [RV.zero] at c0 c4 z0 z1 z2 z3 z4
 have y0 := hA1.frozen 0
 have y1 := hA1.frozen 1
 have y2 := hA1.frozen 2
 have y3 := hA1.frozen 3
 have y4 := hA1.frozen 4
 have HZ := Lib.hid hA1
 clear hA0 hA1
 by_cases hk : k = 6
 ·subst hk
  have HPL := HG6
  clear HG6 HGN
  go_wp2_with fail
  go_loopw [6] (fun i wr => ∃ k : Nat, k <= nm /\ i = .int .i64 k /\ Hid (∀ (j : Nat) y, j < k -> m[j]? = some y -> decide (y.1 = name) = false) /\ wr = W0) (fun i _ => nm - (intOf i).toNat)
  case atStart => exact ⟨0, Nat.zero_le _, rfl, fun j y h => by omega, rfl⟩
  case round =>
   obtain ⟨k, hk, rfl, hno, rfl⟩ := hrel
   by_cases hlt : k < nm
   ·obtain ⟨tx, htx⟩ : ∃ x, m[k]? = some x := ⟨_, List.getElem?_eq_getElem (by have := E2.out; omega)⟩
    obtain ⟨x, hx⟩ : ∃ x, rms[k]? = some x := ⟨_, List.getElem?_eq_getElem (by have := E2.out; omega)⟩
    obtain ⟨b1, o1, rfl, hb1, hc1⟩ := rd_at' (HM.out.below (hB0.mono hBw) (Nat.le_refl _)) hx
    have f0 := hc1 0 _ rfl
    have f1 := hc1 1 _ rfl
    have f2 := hc1 2 _ rfl
    have f3 := hc1 3 _ rfl
    have f4 := hc1 4 _ rfl
    have f5 := hc1 5 _ rfl
    rw [Nat.add_zero] at f0
    have en := HN.out k tx x htx hx
    have HTX := Lib.hid htx
    have HTV := Lib.hid ((HV.out k tx x htx hx).under (hB0.mono hBw) (Nat.le_refl _))
    have hk0 : (0 : Int) <= (k : Int) := Int.natCast_nonneg _
    have hk1 : (k : Int) < (nm : Int) := by omega
    clear hc1 htx hx
    by_cases hnx : x.name = name
    ·have hq : (x.name.toList == name.toList) = true := by rw [str_beq]; simpa using hnx
     have hfi := find_at (p := fun p : ByteArray × JV => decide (p.1 = name)) HTX.out (by rw [en]; simpa using hnx) hno.out
     have HG : Hid ((JV.mk 6 n s l m).get name = some tx.2) := by
      unfold Hid JV.get
      rw [(HPL.out (by simp)).1, hfi]
      show ((JV.mk 6 n s l m).mem[k]?).map (·.2) = _
      rw [(HPL.out (by simp)).2, HTX.out]; rfl
     clear hnx en hfi
     go_wp2_with fail
     refine bodyPost_ret (v := .tuple #[RV.val x.v, .bool true]) (by simp [results, Tryz.results56, go_sem, z0, z1, z2, z3, z4]) rfl ⟨x.v, true, rfl, by rw [HG.out]; rfl, ?_, Below.stored hB0 (by omega) x.v⟩
     rw [HG.out]
     exact HTV.out.under (Below.stored (Below.refl _ _) (by omega) x.v) (Nat.le_refl _)
    ·have hq : (x.name.toList == name.toList) = false := by rw [str_beq]; simpa using hnx
     have HNX : Hid (∀ (j : Nat) y, j < k + 1 -> m[j]? = some y -> decide (y.1 = name) = false) := by
      intro j y hj hy
      by_cases e : j = k
      ·subst e
       have h := HTX.out
       rw [hy] at h
       cases h
       rw [en]; simpa using hnx
      ·exact hno.out j y (by omega) hy
     clear hnx en
     go_wp2_with fail
     go_roundw
     case rel => exact ⟨k + 1, by omega, by go_num, HNX, trivial⟩
     case measure => simp [intOf]; omega
   ·obtain rfl : k = nm := by omega
    have HF := find_not (p := fun p : ByteArray × JV => decide (p.1 = name)) (l := m) (fun j y hy => hno.out j y (by have := (List.getElem?_eq_some_iff.1 hy).1; have := E2.out; omega) hy)
    have HG : Hid ((JV.mk 6 n s l m).get name = none) := by
     unfold Hid JV.get
     rw [(HPL.out (by simp)).1, HF]; rfl
    clear HF
    go_wp2_with fail
    exact bodyPost_ret (v := .tuple #[RV.val RV.zero, .bool false]) (by simp [results, Tryz.results56, go_sem, RV.zero, z0, z1, z2, z3, z4]) rfl ⟨RV.zero, false, rfl, by rw [HG.out]; rfl, by rw [HG.out]; exact TreeOf.zero _ _, Below.stored hB0 (by omega) RV.zero⟩
 ·have HG := Lib.hid (HGN.out hk)
  have hq : (k == 6) = false := by simpa using hk
  clear HG6 HGN hk
  go_wp2_with fail
  go_loopw [6] (fun i wr => i = .int .i64 0 /\ wr = W0) (fun i _ => 0)
  case atStart => exact ⟨rfl, rfl⟩
  case round =>
   obtain ⟨rfl, rfl⟩ := hrel
   by_cases h0 : 0 < nm
   all_goals
    go_wp2_with fail
    exact bodyPost_ret (v := .tuple #[RV.val RV.zero, .bool false]) (by simp [results, Tryz.results56, go_sem, RV.zero, z0, z1, z2, z3, z4]) rfl ⟨RV.zero, false, rfl, by rw [HG.out]; rfl, by rw [HG.out]; exact TreeOf.zero _ _, Below.stored hB0 (by omega) RV.zero⟩
end
section
def formL : List UInt8 := [48, 48, 48, 48, 45, 48, 48, 45, 48, 48, 84, 48, 48, 58, 48, 48, 58, 48, 48]
def posOk (f c : UInt8) : Bool := if f = 48 then digU c else decide (c = f)
def hdOk (l : List UInt8) : Bool := decide (19 <= l.length) && ((formL.zip l).all (fun p => posOk p.1 p.2))
def numAt (l : List UInt8) (i n : Nat) : Int := valD ((l.drop i).take n)
def tlOk (t : List UInt8) : Bool := decide (t = [90]) || (decide (3 <= t.length) && (decide (t.length <= 11) && (decide (t[0]? = some 46) && (decide (t[t.length - 1]? = some 90) && (decide (t[t.length - 2]? ≠ some 48) && ((t.drop 1).take (t.length - 2)).all digU)))))
def leapB (y : Int) : Bool := (decide (y % 4 = 0) && decide (y % 100 ≠ 0)) || decide (y % 400 = 0)
def monthF (y m : Int) : Int := if m = 4 \/ m = 6 \/ m = 9 \/ m = 11 then 30 else if m = 2 then (if leapB y then 29 else 28) else 31
def aheadF (y : Int) : Int := if y = 0 then 0 else 365 * y + (y - 1) / 4 - (y - 1) / 100 + (y - 1) / 400 + 1
def monthsF (y : Int) : Nat -> Int
 | 0 => 0
 | k + 1 => monthsF y k + monthF y (k + 1 : Nat)
def daysF (y m d : Int) : Option Int := if 0 <= y /\ y <= 9999 /\ 1 <= m /\ m <= 12 /\ 1 <= d /\ d <= monthF y m then some (aheadF y - aheadF 1970 + monthsF y (m.toNat - 1) + d - 1) else none
def secF (l : List UInt8) : Option Int :=
 if hdOk l && (tlOk (l.drop 19) && (decide (numAt l 11 2 <= 23) && (decide (numAt l 14 2 <= 59) && decide (numAt l 17 2 <= 59)))) then (daysF (numAt l 0 4) (numAt l 5 2) (numAt l 8 2)).map (fun D => ((D * 24 + numAt l 11 2) * 60 + numAt l 14 2) * 60 + numAt l 17 2) else none
def partF (l : List UInt8) : List UInt8 := ((l.drop 20).take (l.length - 21)) ++ List.replicate (10 - (l.length - 21)) 48
theorem leap_iff (y : Int) : leapB y = true ↔ (y % 4 = 0 /\ y % 100 ≠ 0) \/ y % 400 = 0 := by unfold leapB; simp
theorem leap_cases (y : Int) : monthF y 2 = 29 /\ leapB y = true \/ monthF y 2 = 28 /\ leapB y = false := by
 unfold monthF
 cases h : leapB y
 ·right; simp
 ·left; simp
theorem month_pos (y m : Int) : 28 <= monthF y m /\ monthF y m <= 31 := by
 unfold monthF
 split
 ·omega
 ·split
  ·split <;> omega
  ·omega
theorem ahead_step {y : Int} (h : 0 <= y) : aheadF (y + 1) = aheadF y + 337 + monthF y 2 := by
 have hl := leap_iff y
 rcases leap_cases y with ⟨e, hb⟩ | ⟨e, hb⟩
 ·rw [e]
  rw [hb] at hl
  have h2 := hl.1 rfl
  unfold aheadF
  rw [if_neg (by omega), show y + 1 - 1 = y by omega]
  by_cases h0 : y = 0
  ·subst h0
   rw [if_pos rfl]; decide
  ·rw [if_neg h0]
   omega
 ·rw [e]
  rw [hb] at hl
  have h2 : ¬ ((y % 4 = 0 /\ y % 100 ≠ 0) \/ y % 400 = 0) := fun h => by have := hl.2 h; cases this
  unfold aheadF
  rw [if_neg (by omega), show y + 1 - 1 = y by omega]
  by_cases h0 : y = 0
  ·subst h0
   exact absurd (.inr rfl) h2
  ·rw [if_neg h0]
   omega
def yearsF (y0 : Int) : Nat -> Int
 | 0 => 0
 | k + 1 => yearsF y0 k + 337 + monthF (y0 + k) 2
theorem years_ahead {y0 : Int} (h : 0 <= y0) : ∀ k : Nat, aheadF (y0 + k) = aheadF y0 + yearsF y0 k
 | 0 => by simp [yearsF]
 | k + 1 => by
   have h1 := years_ahead h k
   have h2 := ahead_step (y := y0 + k) (by omega)
   rw [show y0 + ((k + 1 : Nat) : Int) = y0 + k + 1 by omega, h2, h1]
   show _ = aheadF y0 + (yearsF y0 k + 337 + monthF (y0 + k) 2)
   omega
theorem aheadF_bound {y : Int} (h0 : 0 <= y) (h1 : y <= 10000) : 0 <= aheadF y /\ aheadF y <= 3660000 := by
 unfold aheadF
 split <;> omega
theorem monthsF_bound (y : Int) : ∀ k : Nat, 0 <= monthsF y k /\ monthsF y k <= 31 * k
 | 0 => by simp [monthsF]
 | k + 1 => by
   have h := monthsF_bound y k
   have h2 := month_pos y ((k + 1 : Nat) : Int)
   show 0 <= monthsF y k + monthF y ((k + 1 : Nat) : Int) /\ monthsF y k + monthF y ((k + 1 : Nat) : Int) <= _
   omega
def sgnI (n : Int) : Int := if n < 0 then -1 else if 0 < n then 1 else 0
theorem foldD_mono : ∀ (l : List UInt8) (n m : Int), n <= m -> l.foldl stepD n <= l.foldl stepD m
 | [], _, _, h => h
 | b :: l, n, m, h => foldD_mono l _ _ (by unfold stepD; omega)
theorem foldD_lt : ∀ (a b : List UInt8) (n m : Int), a.length = b.length -> a.all digU = true -> b.all digU = true -> n < m -> a.foldl stepD n < b.foldl stepD m
 | [], [], _, _, _, _, _, h => h
 | x :: a, y :: b, n, m, hl, ha, hb, h => by
   rw [List.all_cons, Bool.and_eq_true] at ha hb
   refine foldD_lt a b _ _ (by simpa using hl) ha.2 hb.2 ?_
   have h1 := ha.1
   have h2 := hb.1
   unfold digU at h1 h2
   simp only [Bool.and_eq_true, decide_eq_true_eq] at h1 h2
   unfold stepD
   omega
theorem cmp_digs : ∀ (a b : List UInt8) (n : Int), a.length = b.length -> a.all digU = true -> b.all digU = true -> sgnI (a.foldl stepD n - b.foldl stepD n) = Go.Lib.compareBytes a b
 | [], [], n, _, _, _ => by unfold Go.Lib.compareBytes; rw [show ([] : List UInt8).foldl stepD n - ([] : List UInt8).foldl stepD n = 0 by omega]; rfl
 | x :: a, y :: b, n, hl, ha, hb => by
   rw [List.all_cons, Bool.and_eq_true] at ha hb
   have h1 := ha.1
   have h2 := hb.1
   unfold digU at h1 h2
   simp only [Bool.and_eq_true, decide_eq_true_eq] at h1 h2
   rw [List.foldl_cons, List.foldl_cons]
   have hl2 : a.length = b.length := by simpa using hl
   unfold Go.Lib.compareBytes
   by_cases h : x.toNat < y.toNat
   ·have h3 := foldD_lt a b (stepD n x) (stepD n y) hl2 ha.2 hb.2 (by unfold stepD; omega)
    rw [if_pos (UInt8.lt_iff_toNat_lt.2 h)]
    unfold sgnI
    rw [if_pos (by omega)]
   ·by_cases h4 : y.toNat < x.toNat
    ·have h3 := foldD_lt b a (stepD n y) (stepD n x) hl2.symm hb.2 ha.2 (by unfold stepD; omega)
     rw [if_neg (fun e => h (UInt8.lt_iff_toNat_lt.1 e)), if_pos (UInt8.lt_iff_toNat_lt.2 h4)]
     unfold sgnI
     rw [if_neg (by omega), if_pos (by omega)]
    ·have he : x = y := UInt8.toNat_inj.1 (by omega)
     subst he
     rw [if_neg (fun e => h (UInt8.lt_iff_toNat_lt.1 e)), if_neg (fun e => h4 (UInt8.lt_iff_toNat_lt.1 e))]
     exact cmp_digs a b (stepD n x) hl2 ha.2 hb.2
def partN (l : List UInt8) : Int := valD ((partF l).take 9)
def cmpS (a b : List UInt8) : Int :=
 match secF a, secF b with
 | none, none => Go.Lib.compareBytes a b
 | none, some _ => -1
 | some _, none => 1
 | some x, some y => if x < y then -1 else if y < x then 1 else Go.Lib.compareBytes (partF a) (partF b)
theorem partF_len {l : List UInt8} (h : l.length <= 31) : (partF l).length = 10 := by
 unfold partF
 rw [List.length_append, List.length_replicate, List.length_take, List.length_drop]
 omega
theorem tl_digs {l : List UInt8} (h : tlOk (l.drop 19) = true) : l.length <= 30 /\ 20 <= l.length /\ ((l.drop 20).take (l.length - 21)).all digU = true := by
 unfold tlOk at h
 simp only [Bool.or_eq_true, Bool.and_eq_true, decide_eq_true_eq] at h
 rcases h with h | ⟨h1, h2, h3, h4, h5, h6⟩
 ·have hl : (l.drop 19).length = 1 := by rw [h]; rfl
  rw [List.length_drop] at hl
  refine ⟨by omega, by omega, ?_⟩
  rw [show l.length - 21 = 0 by omega]
  rfl
 ·rw [List.length_drop] at h1 h2
  refine ⟨by omega, by omega, ?_⟩
  rw [List.drop_drop, List.length_drop, show 19 + 1 = 20 from rfl, show l.length - 19 - 2 = l.length - 21 by omega] at h6
  exact h6
theorem zeros_digs (k : Nat) : (List.replicate k (48 : UInt8)).all digU = true := by
 rw [List.all_eq_true]
 intro x hx
 rw [(List.mem_replicate.1 hx).2]
 decide
theorem partF_digs {l : List UInt8} (h : tlOk (l.drop 19) = true) : (partF l).all digU = true /\ (partF l).length = 10 := by
 obtain ⟨h1, h2, h3⟩ := tl_digs h
 refine ⟨?_, partF_len (by omega)⟩
 unfold partF
 rw [List.all_append, h3, zeros_digs]
 rfl
theorem partF_ten {l : List UInt8} (h : tlOk (l.drop 19) = true) : partF l = (partF l).take 9 ++ [48] := by
 obtain ⟨h1, h2, _⟩ := tl_digs h
 have hr : List.replicate (10 - (l.length - 21)) (48 : UInt8) = List.replicate (9 - (l.length - 21)) 48 ++ [48] := by
  rw [show 10 - (l.length - 21) = (9 - (l.length - 21)) + 1 by omega, List.replicate_succ']
 have hlen : ((l.drop 20).take (l.length - 21)).length = l.length - 21 := by rw [List.length_take, List.length_drop]; omega
 have e : partF l = (((l.drop 20).take (l.length - 21)) ++ List.replicate (9 - (l.length - 21)) 48) ++ [48] := by unfold partF; rw [hr, List.append_assoc]
 rw [e, List.take_left' (by rw [List.length_append, hlen, List.length_replicate]; omega)]
theorem sgn_mul {n : Int} : sgnI (n * 10) = sgnI n := by unfold sgnI; split <;> split <;> (try split) <;> (try split) <;> omega
theorem cmp_part {a b : List UInt8} (ha : tlOk (a.drop 19) = true) (hb : tlOk (b.drop 19) = true) : Go.Lib.compareBytes (partF a) (partF b) = sgnI (partN a - partN b) := by
 obtain ⟨h1, h2⟩ := partF_digs ha
 obtain ⟨h3, h4⟩ := partF_digs hb
 rw [<- cmp_digs _ _ 0 (by omega) h1 h3]
 have e1 : (partF a).foldl stepD 0 = partN a * 10 := by
  conv => lhs; rw [partF_ten ha]
  rw [List.foldl_append]
  show stepD (partN a) 48 = _
  unfold stepD
  rw [show ((48 : UInt8).toNat : Int) = 48 from rfl]
  omega
 have e2 : (partF b).foldl stepD 0 = partN b * 10 := by
  conv => lhs; rw [partF_ten hb]
  rw [List.foldl_append]
  show stepD (partN b) 48 = _
  unfold stepD
  rw [show ((48 : UInt8).toNat : Int) = 48 from rfl]
  omega
 rw [e1, e2, show partN a * 10 - partN b * 10 = (partN a - partN b) * 10 by omega, sgn_mul]
theorem secF_tl {l : List UInt8} {x : Int} (h : secF l = some x) : hdOk l = true /\ tlOk (l.drop 19) = true := by
 unfold secF at h
 split at h
 ·rename_i hc
  rw [Bool.and_eq_true, Bool.and_eq_true] at hc
  exact ⟨hc.1, hc.2.1⟩
 ·cases h
def numR (l : List UInt8) (i n : Nat) : Int := if ((l.drop i).take n).all digU then numAt l i n else -1
def sepR (l : List UInt8) : Bool := decide (20 <= l.length) && (decide (l[4]? = some 45) && (decide (l[7]? = some 45) && (decide (l[10]? = some 84) && (decide (l[13]? = some 58) && (decide (l[16]? = some 58) && decide (l[l.length - 1]? = some 90))))))
def timeR (h m n : Int) : Bool := (decide (0 <= h) && decide (h <= 23)) && ((decide (0 <= m) && decide (m <= 59)) && (decide (0 <= n) && decide (n <= 59)))
def fracR (l : List UInt8) : Bool := decide (l.length <= 20) || (decide (l[19]? = some 46) && (decide (1 <= l.length - 21) && (decide (l.length - 21 <= 9) && (decide (0 <= numR l 20 (l.length - 21)) && decide (l[l.length - 2]? ≠ some 48)))))
def secR (l : List UInt8) : Option Int :=
 if sepR l then (match daysF (numR l 0 4) (numR l 5 2) (numR l 8 2) with
  | none => none
  | some d => if timeR (numR l 11 2) (numR l 14 2) (numR l 17 2) then (if fracR l then some (d * 86400 + numR l 11 2 * 3600 + numR l 14 2 * 60 + numR l 17 2) else none) else none) else none
theorem numAt_nonneg {l : List UInt8} {i n : Nat} (h : ((l.drop i).take n).all digU = true) : 0 <= numAt l i n := valD_nonneg h
theorem numR_yes {l : List UInt8} {i n : Nat} (h : ((l.drop i).take n).all digU = true) : numR l i n = numAt l i n := by unfold numR; rw [if_pos h]
theorem numR_no {l : List UInt8} {i n : Nat} (h : ((l.drop i).take n).all digU = false) : numR l i n = -1 := by unfold numR; rw [if_neg (by rw [h]; decide)]
theorem numR_dec {l : List UInt8} {i n : Nat} : decide (0 <= numR l i n) = ((l.drop i).take n).all digU := by
 cases h : ((l.drop i).take n).all digU
 ·rw [numR_no h]; rfl
 ·rw [numR_yes h]; exact decide_eq_true (numAt_nonneg h)
theorem one_more {l : List UInt8} {k : Nat} (h : k + 1 <= l.length) : ∃ c r, l = c :: r /\ k <= r.length := by
 cases l with
 | nil => simp at h
 | cons c r => exact ⟨c, r, rfl, by simpa using h⟩
theorem nineteen {l : List UInt8} (h : 19 <= l.length) : ∃ c0 c1 c2 c3 c4 c5 c6 c7 c8 c9 c10 c11 c12 c13 c14 c15 c16 c17 c18 t, l = c0 :: c1 :: c2 :: c3 :: c4 :: c5 :: c6 :: c7 :: c8 :: c9 :: c10 :: c11 :: c12 :: c13 :: c14 :: c15 :: c16 :: c17 :: c18 :: t := by
 obtain ⟨c0, l1, rfl, h1⟩ := one_more (k := 18) h
 obtain ⟨c1, l2, rfl, h2⟩ := one_more (k := 17) h1
 obtain ⟨c2, l3, rfl, h3⟩ := one_more (k := 16) h2
 obtain ⟨c3, l4, rfl, h4⟩ := one_more (k := 15) h3
 obtain ⟨c4, l5, rfl, h5⟩ := one_more (k := 14) h4
 obtain ⟨c5, l6, rfl, h6⟩ := one_more (k := 13) h5
 obtain ⟨c6, l7, rfl, h7⟩ := one_more (k := 12) h6
 obtain ⟨c7, l8, rfl, h8⟩ := one_more (k := 11) h7
 obtain ⟨c8, l9, rfl, h9⟩ := one_more (k := 10) h8
 obtain ⟨c9, l10, rfl, h10⟩ := one_more (k := 9) h9
 obtain ⟨c10, l11, rfl, h11⟩ := one_more (k := 8) h10
 obtain ⟨c11, l12, rfl, h12⟩ := one_more (k := 7) h11
 obtain ⟨c12, l13, rfl, h13⟩ := one_more (k := 6) h12
 obtain ⟨c13, l14, rfl, h14⟩ := one_more (k := 5) h13
 obtain ⟨c14, l15, rfl, h15⟩ := one_more (k := 4) h14
 obtain ⟨c15, l16, rfl, h16⟩ := one_more (k := 3) h15
 obtain ⟨c16, l17, rfl, h17⟩ := one_more (k := 2) h16
 obtain ⟨c17, l18, rfl, h18⟩ := one_more (k := 1) h17
 obtain ⟨c18, l19, rfl, h19⟩ := one_more (k := 0) h18
 exact ⟨_, _, _, _, _, _, _, _, _, _, _, _, _, _, _, _, _, _, _, _, rfl⟩
theorem hdOk_parts {l : List UInt8} (h : 19 <= l.length) : hdOk l = ((decide (l[4]? = some 45) && (decide (l[7]? = some 45) && (decide (l[10]? = some 84) && (decide (l[13]? = some 58) && decide (l[16]? = some 58))))) &&
 ((((l.drop 0).take 4).all digU && (((l.drop 5).take 2).all digU && ((l.drop 8).take 2).all digU)) && (((l.drop 11).take 2).all digU && (((l.drop 14).take 2).all digU && ((l.drop 17).take 2).all digU)))) := by
 obtain ⟨c0, c1, c2, c3, c4, c5, c6, c7, c8, c9, c10, c11, c12, c13, c14, c15, c16, c17, c18, t, rfl⟩ := nineteen h
 unfold hdOk
 rw [decide_eq_true h, Bool.true_and]
 have e : ((formL.zip (c0 :: c1 :: c2 :: c3 :: c4 :: c5 :: c6 :: c7 :: c8 :: c9 :: c10 :: c11 :: c12 :: c13 :: c14 :: c15 :: c16 :: c17 :: c18 :: t)).all (fun p => posOk p.1 p.2)) = (digU c0 && (digU c1 && (digU c2 && (digU c3 && (decide (c4 = 45) && (digU c5 && (digU c6 && (decide (c7 = 45) && (digU c8 && (digU c9 && (decide (c10 = 84) && (digU c11 && (digU c12 && (decide (c13 = 58) && (digU c14 && (digU c15 && (decide (c16 = 58) && (digU c17 && (digU c18 && true))))))))))))))))))) := rfl
 rw [e]
 simp only [List.getElem?_cons_succ, List.getElem?_cons_zero, Option.some.injEq, List.drop_succ_cons, List.drop_zero, List.take_succ_cons, List.take_zero, List.all_cons, List.all_nil, Bool.and_true]
 generalize digU c0 = d0; generalize digU c1 = d1; generalize digU c2 = d2; generalize digU c3 = d3; generalize digU c5 = d5; generalize digU c6 = d6; generalize digU c8 = d8; generalize digU c9 = d9; generalize digU c11 = d11; generalize digU c12 = d12; generalize digU c14 = d14; generalize digU c15 = d15; generalize digU c17 = d17; generalize digU c18 = d18
 generalize decide (c4 = 45) = s4; generalize decide (c7 = 45) = s7; generalize decide (c10 = 84) = s10; generalize decide (c13 = 58) = s13; generalize decide (c16 = 58) = s16
 rw [Bool.eq_iff_iff]
 simp only [Bool.and_eq_true]
 constructor
 ·rintro ⟨h0, h1, h2, h3, h4, h5, h6, h7, h8, h9, h10, h11, h12, h13, h14, h15, h16, h17, h18⟩
  exact ⟨⟨h4, h7, h10, h13, h16⟩, ⟨⟨h0, h1, h2, h3⟩, ⟨h5, h6⟩, h8, h9⟩, ⟨h11, h12⟩, ⟨h14, h15⟩, h17, h18⟩
 ·rintro ⟨⟨h4, h7, h10, h13, h16⟩, ⟨⟨h0, h1, h2, h3⟩, ⟨h5, h6⟩, h8, h9⟩, ⟨h11, h12⟩, ⟨h14, h15⟩, h17, h18⟩
  exact ⟨h0, h1, h2, h3, h4, h5, h6, h7, h8, h9, h10, h11, h12, h13, h14, h15, h16, h17, h18⟩
theorem tl_parts {l : List UInt8} (h : 20 <= l.length) : tlOk (l.drop 19) = (decide (l[l.length - 1]? = some 90) && fracR l) := by
 have hlen : (l.drop 19).length = l.length - 19 := List.length_drop
 have hl : (l.drop 19)[(l.drop 19).length - 1]? = l[l.length - 1]? := by rw [List.getElem?_drop, hlen]; congr 1; omega
 have hl2 : 21 <= l.length -> (l.drop 19)[l.length - 19 - 2]? = l[l.length - 2]? := fun _ => by rw [List.getElem?_drop]; congr 1; omega
 have h0 : (l.drop 19)[0]? = l[19]? := by rw [List.getElem?_drop]
 have hd : ((l.drop 19).drop 1).take ((l.drop 19).length - 2) = (l.drop 20).take (l.length - 21) := by rw [List.drop_drop, hlen]; congr 1
 unfold tlOk fracR
 rw [numR_dec, hl, h0, hd, hlen]
 by_cases h1 : l.length = 20
 ·have hz : decide (l.drop 19 = [90]) = decide (l[l.length - 1]? = some 90) := by
   obtain ⟨x, hx⟩ : ∃ x, l.drop 19 = [x] := by
    match hdr : l.drop 19, hlen with
    | [x], _ => exact ⟨x, rfl⟩
    | [], h2 => rw [h1] at h2; cases h2
    | _ :: _ :: _, h2 => rw [h1] at h2; simp at h2
   have h2 : l[l.length - 1]? = some x := by
    rw [<- hl, hlen, h1, hx]; rfl
   rw [hx, h2]
   simp
  rw [hz, decide_eq_false (p := 3 <= l.length - 19) (by omega), decide_eq_true (p := l.length <= 20) (by omega)]
  simp
 ·have hz : decide (l.drop 19 = [90]) = false := decide_eq_false (fun e => by rw [e] at hlen; simp at hlen; omega)
  rw [hz, decide_eq_false (p := l.length <= 20) (by omega), hl2 (by omega), Bool.false_or, Bool.false_or]
  have e1 : decide (3 <= l.length - 19) = decide (1 <= l.length - 21) := decide_eq_decide.2 (by omega)
  have e2 : decide (l.length - 19 <= 11) = decide (l.length - 21 <= 9) := decide_eq_decide.2 (by omega)
  rw [e1, e2]
  generalize decide (1 <= l.length - 21) = a; generalize decide (l.length - 21 <= 9) = b; generalize decide (l[19]? = some 46) = c; generalize decide (l[l.length - 1]? = some 90) = d; generalize decide (l[l.length - 2]? ≠ some 48) = e; generalize ((l.drop 20).take (l.length - 21)).all digU = f
  cases a <;> cases b <;> cases c <;> cases d <;> cases e <;> cases f <;> rfl
theorem daysF_neg {y m d : Int} (h : y = -1 \/ m = -1 \/ d = -1) : daysF y m d = none := by unfold daysF; rw [if_neg (by omega)]
theorem secR_eq (l : List UInt8) : secR l = secF l := by
 by_cases h20 : 20 <= l.length
 ·have hh := hdOk_parts (l := l) (by omega)
  have ht := tl_parts h20
  unfold secF secR
  rw [hh, ht]
  unfold sepR
  rw [decide_eq_true h20, Bool.true_and]
  cases hs4 : decide (l[4]? = some 45) <;> (try rfl)
  cases hs7 : decide (l[7]? = some 45) <;> (try rfl)
  cases hs10 : decide (l[10]? = some 84) <;> (try rfl)
  cases hs13 : decide (l[13]? = some 58) <;> (try rfl)
  cases hs16 : decide (l[16]? = some 58) <;> (try rfl)
  cases hz : decide (l[l.length - 1]? = some 90)
  ·simp
  ·simp only [Bool.true_and, if_true]
   cases hy : ((l.drop 0).take 4).all digU
   ·rw [numR_no hy, daysF_neg (.inl rfl)]; rfl
   cases hm : ((l.drop 5).take 2).all digU
   ·rw [numR_no hm, daysF_neg (.inr (.inl rfl))]; rfl
   cases hd : ((l.drop 8).take 2).all digU
   ·rw [numR_no hd, daysF_neg (.inr (.inr rfl))]; rfl
   rw [numR_yes hy, numR_yes hm, numR_yes hd]
   unfold timeR
   rw [numR_dec, numR_dec, numR_dec]
   cases hh' : ((l.drop 11).take 2).all digU
   ·cases daysF (numAt l 0 4) (numAt l 5 2) (numAt l 8 2) <;> rfl
   cases hi : ((l.drop 14).take 2).all digU
   ·rw [numR_yes hh']
    cases daysF (numAt l 0 4) (numAt l 5 2) (numAt l 8 2) <;> simp
   cases hn : ((l.drop 17).take 2).all digU
   ·rw [numR_yes hh', numR_yes hi]
    cases daysF (numAt l 0 4) (numAt l 5 2) (numAt l 8 2) <;> simp
   rw [numR_yes hh', numR_yes hi, numR_yes hn]
   simp only [Bool.true_and]
   cases hf : fracR l
   ·simp only [Bool.false_and, if_neg, Bool.false_eq_true, if_false]
    cases daysF (numAt l 0 4) (numAt l 5 2) (numAt l 8 2) <;> simp
   ·simp only [Bool.true_and]
    cases hdd : daysF (numAt l 0 4) (numAt l 5 2) (numAt l 8 2) with
    | none => simp
    | some D =>
      dsimp only
      by_cases hc : (decide (numAt l 11 2 <= 23) && (decide (numAt l 14 2 <= 59) && decide (numAt l 17 2 <= 59))) = true
      ·rw [if_pos hc, if_pos hc, if_true, Option.map_some]
       congr 1
       omega
      ·rw [if_neg hc, if_neg hc]
 ·have h1 : secR l = none := by unfold secR sepR; rw [decide_eq_false h20]; rfl
  have h2 : secF l = none := by
   cases h : secF l with
   | none => rfl
   | some x =>
     obtain ⟨_, ht⟩ := secF_tl h
     have := (tl_digs ht).2.1
     exact absurd this h20
  rw [h1, h2]
end
end Go.Proofs.YtjhginendpjimaaGreatDoor
