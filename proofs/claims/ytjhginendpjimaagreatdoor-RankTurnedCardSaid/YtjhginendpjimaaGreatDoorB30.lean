import Derived.Test.YtjhginendpjimaaGreatDoorB02
set_option linter.unusedSimpArgs false
set_option linter.unusedVariables false
set_option maxRecDepth 200000
set_option maxHeartbeats 8000000
namespace Go.Proofs.YtjhginendpjimaaGreatDoor
section
open Go.RowKit Go.OpenShut
def SomeB (w : World) (e : Ending) (w' : World) : Prop := ∃ b : Bool, e = .returned (.bool b) /\ Below w.heap.size w w'
def SomeI (w : World) (e : Ending) (w' : World) : Prop := ∃ n : Int, e = .returned (.int .i64 n) /\ Below w.heap.size w w'
theorem own7_any (N : Nat) : ∀ (t : JV) (r : RV) (w : World), SizeOf.sizeOf t <= N -> TreeOf w w.heap.size t r -> t.Ok ->
 Calls Tryz.prog 31 #[r.val] w (SomeB w) := by
 induction N with
 | zero => intro t r w hN; cases t; simp at hN
 | succ N ih =>
   intro t r w hN ht ot
   cases ht with
   | @mk _ l m rs rms hl el hcl hm em hcn hcm =>
   obtain ⟨k, n, s, pl, nl, cl, pm, nm, cm⟩ := r
   cases ot with
   | mk _ _ _ bl bm okl oks okm =>
   dsimp only [RV.val] at *
   have eL := rd_nlen hl
   have eM := rd_nlen hm
   have HT : Hid (∀ (i : Nat) t q, l[i]? = some t -> rs[i]? = some q -> ∀ W, Below w.heap.size w W -> Calls Tryz.prog 31 #[q.val] W (SomeB W)) :=
    fun i t q h1 h2 W hb => ih t q W (by have := JV.lt_l (k := k) (n := n) (s := s) (m := m) h1; omega) ((hcl i t q h1 h2).under hb hb.size) (okl i t h1)
   have HS : Hid (∀ (i : Nat) p q, m[i]? = some p -> rms[i]? = some q -> ∀ W, Below w.heap.size w W -> Calls Tryz.prog 31 #[q.v.val] W (SomeB W)) :=
    fun i p q h1 h2 W hb => ih p.2 q.v W (by have := JV.lt_m (k := k) (n := n) (s := s) (l := l) h1; omega) ((hcm i p q h1 h2).under hb hb.size) (okm i p h1)
   have HL := Lib.hid hl
   have HM := Lib.hid hm
   have E1 : Hid (l.length = nl /\ rs.length = nl) := ⟨by omega, by omega⟩
   have E2 : Hid (m.length = nm /\ rms.length = nm) := ⟨by omega, by omega⟩
   have hnl : nl <= 1759218604390 := by omega
   have hnm : nm <= 1466015503658 := by omega
   have hA0 : VAt (w.alloc (.cells #[.int .i64 k, .int .i64 n, .string s, .slice pl nl cl, .slice pm nm cm] 25)) w.heap.size ⟨k, n, s, pl, nl, cl, pm, nm, cm⟩ := heap_alloc_at rfl
   have hB0 : Below w.heap.size w (w.alloc (.cells #[.int .i64 k, .int .i64 n, .string s, .slice pl nl cl, .slice pm nm cm] 25)) := (Below.refl _ _).alloc (Nat.le_refl _) _
   clear ih hcl hcn hcm hl hm okl oks okm el em bl bm eL eM hN
   go_enter Tryz.func31, Tryz.ntmps31
   go_upto_region 1 with fail
   obtain ⟨W0, hW0⟩ : ∃ W0, (w.alloc (.cells #[.int .i64 k, .int .i64 n, .string s, .slice pl nl cl, .slice pm nm cm] 25)) = W0 := ⟨_, rfl⟩
   rw [hW0] at hA0 hB0 ⊢
   clear hW0
   have hz := hA0.lt
   have c0 := hA0.cell 0 rfl
   have c3 := hA0.cell 3 rfl
   have c4 := hA0.cell 4 rfl
   dsimp only at c0 c3 c4
   have HA := Lib.hid hA0
   clear hA0
   go_cut [24] from 5 to 24 (fun v wr => ∃ b : Bool, v = .bool b /\ wr = W0)
   case first =>
    cases h5 : (k != 5) <;> cases h6 : (k != 6) <;> by_cases p1 : 0 < nl <;> by_cases p2 : 0 < nm
    all_goals go_wp2_with fail
    all_goals (go_meet; exact ⟨_, rfl, rfl⟩)
   case rest =>
   obtain ⟨b, rfl, rfl⟩ := hcut
   cases b with
   | true =>
     go_wp2_with fail
     go_ret
     exact ⟨false, rfl, hB0⟩
   | false =>
     go_wp2_with fail
     go_loopw [3] (fun i wr => ∃ j : Nat, j <= nl /\ i = .int .i64 j /\ Below wc.heap.size wc wr) (fun i _ => nl - (intOf i).toNat)
     case atStart => exact ⟨0, Nat.zero_le _, rfl, Below.refl _ _⟩
     case round =>
      obtain ⟨j, hj, rfl, hbr⟩ := hrel
      have c3 := bcs hbr hz c3
      have hbw : Below w.heap.size w wr := hB0.trans (hbr.mono hB0.size)
      by_cases hlt : j < nl
      ·obtain ⟨tx, htx⟩ : ∃ x, l[j]? = some x := ⟨_, List.getElem?_eq_getElem (by have := E1.out; omega)⟩
       obtain ⟨x, hx⟩ : ∃ x, rs[j]? = some x := ⟨_, List.getElem?_eq_getElem (by have := E1.out; omega)⟩
       obtain ⟨b1, o1, rfl, hb1, hc1⟩ := rd_at' (HL.out.below hbw (Nat.le_refl _)) hx
       have f0 := hc1 0 _ rfl
       have f1 := hc1 1 _ rfl
       have f2 := hc1 2 _ rfl
       have f3 := hc1 3 _ rfl
       have f4 := hc1 4 _ rfl
       rw [Nat.add_zero] at f0
       have HC := Lib.hid (HT.out j tx x htx hx)
       have hk0 : (0 : Int) <= (j : Int) := Int.natCast_nonneg _
       have hk1 : (j : Int) < (nl : Int) := by omega
       have hzr : wc.heap.size <= wr.heap.size := hbr.size
       have HBR := Lib.hid hbr
       clear hc1 htx hx hbr
       go_wp2_with (go_at_call 31; refine (HC.out _ hbw).mono ?_; rintro e w1 ⟨b, rfl, hb1'⟩; cases b)
       ·go_ret
        exact ⟨false, rfl, hbw.trans (hb1'.mono hbw.size)⟩
       ·go_roundw
        case rel => exact ⟨j + 1, by omega, by go_num, HBR.out.trans (hb1'.mono (by omega))⟩
        case measure => simp [intOf]; omega
      ·obtain rfl : j = nl := by omega
       have hz1 : wc.heap.size <= wr.heap.size := hbr.size
       have c4 := bcs hbr hz c4
       clear HT HL E1 hbr
       obtain ⟨wo, rfl⟩ : ∃ wo : World, wo = wr := ⟨_, rfl⟩
       go_wp2_with fail
       clear c3
       go_loopw [4] (fun i wq => ∃ j : Nat, j <= nm /\ i = .int .i64 j /\ Below wo.heap.size wo wq) (fun i _ => nm - (intOf i).toNat)
       case atStart => exact ⟨0, Nat.zero_le _, rfl, Below.refl _ _⟩
       case round =>
        obtain ⟨wq, rfl⟩ : ∃ wq : World, wq = wr := ⟨_, rfl⟩
        obtain ⟨j, hj, rfl, hbr⟩ := hrel
        have hbw2 : Below w.heap.size w wq := hbw.trans (hbr.mono (by omega))
        have c4 := bcs hbr (by omega) c4
        by_cases hlt : j < nm
        ·obtain ⟨tx, htx⟩ : ∃ x, m[j]? = some x := ⟨_, List.getElem?_eq_getElem (by have := E2.out; omega)⟩
         obtain ⟨x, hx⟩ : ∃ x, rms[j]? = some x := ⟨_, List.getElem?_eq_getElem (by have := E2.out; omega)⟩
         obtain ⟨b1, o1, rfl, hb1, hc1⟩ := rd_at' (HM.out.below hbw2 (Nat.le_refl _)) hx
         have f0 := hc1 0 _ rfl
         have f1 := hc1 1 _ rfl
         have f2 := hc1 2 _ rfl
         have f3 := hc1 3 _ rfl
         have f4 := hc1 4 _ rfl
         have f5 := hc1 5 _ rfl
         rw [Nat.add_zero] at f0
         have HC := Lib.hid (HS.out j tx x htx hx)
         have hk0 : (0 : Int) <= (j : Int) := Int.natCast_nonneg _
         have hk1 : (j : Int) < (nm : Int) := by omega
         have hzr : wc.heap.size <= wq.heap.size := by have := hbr.size; omega
         have hzq : wo.heap.size <= wq.heap.size := hbr.size
         have HBR := Lib.hid hbr
         clear hc1 htx hx hbr
         go_wp2_with (go_at_call 31; refine (HC.out _ hbw2).mono ?_; rintro e w1 ⟨b, rfl, hb1'⟩; cases b)
         ·go_ret
          exact ⟨false, rfl, hbw2.trans (hb1'.mono hbw2.size)⟩
         ·go_roundw
          case rel => exact ⟨j + 1, by omega, by go_num, HBR.out.trans (hb1'.mono (by omega))⟩
          case measure => simp [intOf]; omega
        ·obtain rfl : j = nm := by omega
         go_wp2_with fail
         go_ret
         exact ⟨true, rfl, hbw2⟩
theorem size21_any (N : Nat) : ∀ (t : JV) (r : RV) (most : Int) (w : World), SizeOf.sizeOf t <= N -> TreeOf w w.heap.size t r -> t.Ok ->
 Calls Tryz.prog 57 #[r.val, .int .i64 most] w (SomeI w) := by
 induction N with
 | zero => intro t r most w hN; cases t; simp at hN
 | succ N ih =>
   intro t r most w hN ht ot
   cases ht with
   | @mk _ l m rs rms hl el hcl hm em hcn hcm =>
   obtain ⟨k, n, s, pl, nl, cl, pm, nm, cm⟩ := r
   cases ot with
   | mk _ _ _ bl bm okl oks okm =>
   dsimp only [RV.val] at *
   have eL := rd_nlen hl
   have eM := rd_nlen hm
   have HT : Hid (∀ (i : Nat) t q, l[i]? = some t -> rs[i]? = some q -> ∀ W, Below w.heap.size w W -> ∀ most, Calls Tryz.prog 57 #[q.val, .int .i64 most] W (SomeI W)) :=
    fun i t q h1 h2 W hb most => ih t q most W (by have := JV.lt_l (k := k) (n := n) (s := s) (m := m) h1; omega) ((hcl i t q h1 h2).under hb hb.size) (okl i t h1)
   have HS : Hid (∀ (i : Nat) p q, m[i]? = some p -> rms[i]? = some q -> ∀ W, Below w.heap.size w W -> ∀ most, Calls Tryz.prog 57 #[q.v.val, .int .i64 most] W (SomeI W)) :=
    fun i p q h1 h2 W hb most => ih p.2 q.v most W (by have := JV.lt_m (k := k) (n := n) (s := s) (l := l) h1; omega) ((hcm i p q h1 h2).under hb hb.size) (okm i p h1)
   have HL := Lib.hid hl
   have HM := Lib.hid hm
   have E1 : Hid (l.length = nl /\ rs.length = nl) := ⟨by omega, by omega⟩
   have E2 : Hid (m.length = nm /\ rms.length = nm) := ⟨by omega, by omega⟩
   have hnl : nl <= 1759218604390 := by omega
   have hnm : nm <= 1466015503658 := by omega
   have hA0 : VAt (w.alloc (.cells #[.int .i64 k, .int .i64 n, .string s, .slice pl nl cl, .slice pm nm cm] 25)) w.heap.size ⟨k, n, s, pl, nl, cl, pm, nm, cm⟩ := heap_alloc_at rfl
   have hB0 : Below w.heap.size w (w.alloc (.cells #[.int .i64 k, .int .i64 n, .string s, .slice pl nl cl, .slice pm nm cm] 25)) := (Below.refl _ _).alloc (Nat.le_refl _) _
   clear ih hcl hcn hcm hl hm okl oks okm el em bl bm eL eM hN
   go_enter Tryz.func57, Tryz.ntmps57
   go_upto_region 1 with fail
   obtain ⟨W0, hW0⟩ : ∃ W0, (w.alloc (.cells #[.int .i64 k, .int .i64 n, .string s, .slice pl nl cl, .slice pm nm cm] 25)) = W0 := ⟨_, rfl⟩
   rw [hW0] at hA0 hB0 ⊢
   clear hW0
   have hz := hA0.lt
   have c2 := hA0.cell 2 rfl
   have c3 := hA0.cell 3 rfl
   have c4 := hA0.cell 4 rfl
   dsimp only at c2 c3 c4
   clear hA0
   go_wp2_with fail
   clear c2
   go_loopw [5, 6] (fun a i wr => ∃ (g : Int) (j : Nat), j <= nl /\ a = .int .i64 g /\ i = .int .i64 j /\ Below W0.heap.size W0 wr) (fun _ i _ => nl - (intOf i).toNat)
   case atStart => exact ⟨_, 0, Nat.zero_le _, rfl, rfl, Below.refl _ _⟩
   case round =>
    obtain ⟨g, j, hj, rfl, rfl, hbr⟩ := hrel
    have c3 := bcs hbr hz c3
    have hbw : Below w.heap.size w wr := hB0.trans (hbr.mono hB0.size)
    obtain ⟨wo, rfl⟩ : ∃ wo : World, wo = wr := ⟨_, rfl⟩
    by_cases hgo : j < nl /\ g <= most
    ·obtain ⟨hlt, hgm⟩ := hgo
     obtain ⟨tx, htx⟩ : ∃ x, l[j]? = some x := ⟨_, List.getElem?_eq_getElem (by have := E1.out; omega)⟩
     obtain ⟨x, hx⟩ : ∃ x, rs[j]? = some x := ⟨_, List.getElem?_eq_getElem (by have := E1.out; omega)⟩
     obtain ⟨b1, o1, rfl, hb1, hc1⟩ := rd_at' (HL.out.below hbw (Nat.le_refl _)) hx
     have f0 := hc1 0 _ rfl
     have f1 := hc1 1 _ rfl
     have f2 := hc1 2 _ rfl
     have f3 := hc1 3 _ rfl
     have f4 := hc1 4 _ rfl
     rw [Nat.add_zero] at f0
     have HC := Lib.hid (HT.out j tx x htx hx)
     have hk0 : (0 : Int) <= (j : Int) := Int.natCast_nonneg _
     have hk1 : (j : Int) < (nl : Int) := by omega
     have hzr : W0.heap.size <= wo.heap.size := hbr.size
     have HBR := Lib.hid hbr
     clear hc1 htx hx hbr
     go_wp2_with (go_at_call 57; refine (HC.out _ hbw _).mono ?_; rintro e w1 ⟨d, rfl, hb1'⟩)
     go_roundw
     case rel => exact ⟨_, j + 1, by omega, rfl, by go_num, HBR.out.trans (hb1'.mono (by omega))⟩
     case measure => simp [intOf]; omega
    ·have hz1 : W0.heap.size <= wo.heap.size := hbr.size
     have c4 := bcs hbr hz c4
     clear HT HL E1 hbr
     by_cases p1 : j < nl
     all_goals (try (have hgm : ¬ g <= most := fun h => hgo ⟨p1, h⟩))
     all_goals clear hgo
     all_goals go_wp2_with fail
     all_goals clear c3
     all_goals (
     go_loopw [5, 7] (fun a i wq => ∃ (g : Int) (j : Nat), j <= nm /\ a = .int .i64 g /\ i = .int .i64 j /\ Below wo.heap.size wo wq) (fun _ i _ => nm - (intOf i).toNat)
     case atStart => exact ⟨g, 0, Nat.zero_le _, rfl, rfl, Below.refl _ _⟩
     case round =>
      obtain ⟨g, j, hj, rfl, rfl, hbr⟩ := hrel
      have hbw2 : Below w.heap.size w wr := hbw.trans (hbr.mono (by omega))
      have c4 := bcs hbr (by omega) c4
      obtain ⟨w3, rfl⟩ : ∃ w3 : World, w3 = wr := ⟨_, rfl⟩
      by_cases hgo : j < nm /\ g <= most
      ·obtain ⟨hlt, hgm⟩ := hgo
       obtain ⟨tx, htx⟩ : ∃ x, m[j]? = some x := ⟨_, List.getElem?_eq_getElem (by have := E2.out; omega)⟩
       obtain ⟨x, hx⟩ : ∃ x, rms[j]? = some x := ⟨_, List.getElem?_eq_getElem (by have := E2.out; omega)⟩
       obtain ⟨b1, o1, rfl, hb1, hc1⟩ := rd_at' (HM.out.below hbw2 (Nat.le_refl _)) hx
       have f0 := hc1 0 _ rfl
       have f1 := hc1 1 _ rfl
       have f2 := hc1 2 _ rfl
       have f3 := hc1 3 _ rfl
       have f4 := hc1 4 _ rfl
       have f5 := hc1 5 _ rfl
       rw [Nat.add_zero] at f0
       have HC := Lib.hid (HS.out j tx x htx hx)
       have hk0 : (0 : Int) <= (j : Int) := Int.natCast_nonneg _
       have hk1 : (j : Int) < (nm : Int) := by omega
       have HBR := Lib.hid hbr
       have hzq : wo.heap.size <= w3.heap.size := hbr.size
       clear hc1 htx hx hbr
       go_wp2_with (go_at_call 57; refine (HC.out _ hbw2 _).mono ?_; rintro e w1 ⟨d, rfl, hb1'⟩)
       all_goals (
        go_roundw
        case rel => first | exact ⟨_, j + 1, by omega, rfl, by go_num, HBR.out.trans (hb1'.mono (by omega))⟩ | exact ⟨_, j + 1, by omega, rfl, by go_num, HBR.out⟩
        case measure => simp [intOf]; omega)
      ·by_cases p1 : j < nm
       all_goals (try (have hgm : ¬ g <= most := fun h => hgo ⟨p1, h⟩))
       all_goals clear hgo
       all_goals go_wp2_with fail
       all_goals go_ret
       all_goals exact ⟨_, rfl, hbw2⟩)
theorem light_any (t : JV) (r : RV) (w : World) (ht : TreeOf w w.heap.size t r) (ot : t.Ok) : Calls Tryz.prog 34 #[r.val] w (SomeB w) := by
 have HT := Lib.hid ht
 have hA0 : VAt (w.alloc (.cells #[.int .i64 r.k, .int .i64 r.n, .string r.s, .slice r.pl r.nl r.cl, .slice r.pm r.nm r.cm] 25)) w.heap.size r := heap_alloc_at rfl
 have hB0 : Below w.heap.size w (w.alloc (.cells #[.int .i64 r.k, .int .i64 r.n, .string r.s, .slice r.pl r.nl r.cl, .slice r.pm r.nm r.cm] 25)) := (Below.refl _ _).alloc (Nat.le_refl _) _
 clear ht
 go_enter Tryz.func34, Tryz.ntmps34
 try go_upto_region 1 with fail
 obtain ⟨W0, hW0⟩ : ∃ W0, (w.alloc (.cells #[.int .i64 r.k, .int .i64 r.n, .string r.s, .slice r.pl r.nl r.cl, .slice r.pm r.nm r.cm] 25)) = W0 := ⟨_, rfl⟩
 try rw [hW0]
 rw [hW0] at hA0 hB0
 clear hW0
 have hz := hA0.lt
 obtain ⟨c0, c1, c2, c3, c4⟩ := hA0.cells5
 clear hA0
 have HN : Hid (∀ W, Below w.heap.size w W -> Calls Tryz.prog 57 #[r.val, .int .i64 8000] W (SomeI W)) := fun W hb => size21_any _ t r _ W (Nat.le_refl _) (HT.out.under hb hb.size) ot
 trace_state
 go_wp2_with (go_at_call 57; refine (HN.out _ hB0).mono ?_; rintro e w1 ⟨d, rfl, hb1⟩; (have hb2 := hB0.trans (hb1.mono hB0.size)))
 all_goals go_ret
 all_goals exact ⟨_, rfl, hb2⟩
end
end Go.Proofs.YtjhginendpjimaaGreatDoor
