import Derived.Test.YtffhccmppdgmfaaGreatDoorC28
import Derived.Test.YtffhccmppdgmfaaGreatDoorC13
set_option linter.unusedSimpArgs false
set_option linter.unusedVariables false
set_option maxRecDepth 200000
set_option maxHeartbeats 8000000
namespace Go.Proofs.YtffhccmppdgmfaaGreatDoor
section
open Go.RowKit Go.OpenShut
def SomeM (t : JV) (n : Nat) (w : World) (e : Ending) (w' : World) : Prop := ∃ b : Bool, e = .returned (.bool b) /\ Hid (b = true -> n <= 10000 /\ OwnM t) /\ Below w.heap.size w w'
def FewBm (w : World) (b : BoxD) (e : Ending) (w' : World) : Prop := ∃ y : Bool, e = .returned (.bool y) /\ Hid (y = true -> (b.objs.length <= 100 /\ b.trail.length <= 300) /\ ∀ p ∈ b.objs, p.2.m.length <= 10000) /\ Below w.heap.size w w'
theorem few7m_any (t : JV) (r : RV) (most : Int) (w : World) (ht : TreeOf w w.heap.size t r) (ot : t.Ok) :
 Calls Tryz.prog 18 #[r.val, .int .i64 most] w (SomeM t r.nm w) := by
 have HT := Lib.hid ht
 have hA0 : VAt (w.alloc (.cells #[.int .i64 r.k, .int .i64 r.n, .string r.s, .slice r.pl r.nl r.cl, .slice r.pm r.nm r.cm] 25)) w.heap.size r := heap_alloc_at rfl
 have hB0 : Below w.heap.size w (w.alloc (.cells #[.int .i64 r.k, .int .i64 r.n, .string r.s, .slice r.pl r.nl r.cl, .slice r.pm r.nm r.cm] 25)) := (Below.refl _ _).alloc (Nat.le_refl _) _
 clear ht
 go_enter Tryz.func18, Tryz.ntmps18
 go_upto_region 1 with fail
 obtain ⟨W0, hW0⟩ : ∃ W0, (w.alloc (.cells #[.int .i64 r.k, .int .i64 r.n, .string r.s, .slice r.pl r.nl r.cl, .slice r.pm r.nm r.cm] 25)) = W0 := ⟨_, rfl⟩
 rw [hW0] at hA0 hB0 ⊢
 clear hW0
 have hz := hA0.lt
 obtain ⟨c0, c1, c2, c3, c4⟩ := hA0.cells5
 clear hA0
 have HD : Hid (∀ W, Below w.heap.size w W -> Calls Tryz.prog 47 #[r.val, .int .i64 100] W (SomeF r.nm W)) := fun W hb => deep7_any t r W (HT.out.under hb hb.size) ot
 have HN : Hid (∀ W, Below w.heap.size w W -> Calls Tryz.prog 48 #[r.val, .int .i64 most] W (SomeI W)) := fun W hb => count7_any _ t r most W (Nat.le_refl _) (HT.out.under hb hb.size) ot
 have HO : Hid (∀ W, Below w.heap.size w W -> Calls Tryz.prog 49 #[r.val] W (OwnRet7 W t)) := fun W hb => own7m_any _ t r W (Nat.le_refl _) (HT.out.under hb hb.size) ot
 go_wp2_with (first
  | (go_at_call 47; refine (HD.out _ hB0).mono ?_; rintro e w1 ⟨b1, rfl, hbL, hbA⟩; (have hb1 := hB0.trans (hbA.mono hB0.size)); (have d0 := bcs hbA hz c0); (have d1 := bcs hbA hz c1); (have d2 := bcs hbA hz c2); (have d3 := bcs hbA hz c3); (have d4 := bcs hbA hz c4); cases b1)
  | (go_at_call 48; refine (HN.out _ hb1).mono ?_; rintro e w2 ⟨d, rfl, hbB⟩; (have hb2 := hb1.trans (hbB.mono hb1.size)); (have hz1 := Nat.lt_of_lt_of_le hz hbA.size); (have e0 := bcs hbB hz1 d0); (have e1 := bcs hbB hz1 d1); (have e2 := bcs hbB hz1 d2); (have e3 := bcs hbB hz1 d3); (have e4 := bcs hbB hz1 d4); (by_cases hd : d <= most))
  | (go_at_call 49; refine (HO.out _ hb2).mono ?_; rintro e w3 ⟨b3, rfl, hM, hbC⟩; (have hb3 := hb2.trans (hbC.mono hb2.size))))
 all_goals go_ret
 all_goals first | (refine ⟨b3, rfl, ?_, hb3⟩; have h := hbL.out; exact fun hb => ⟨h trivial, hM.out hb⟩) | exact ⟨false, rfl, (fun h => by cases h), hb2⟩ | exact ⟨false, rfl, (fun h => by cases h), hb1⟩
end
section
open Go Go.RowKit Go.OpenShut
theorem countL_tk {l : List JV} {j : Nat} {t : JV} (h : l[j]? = some t) : countL (l.take (j + 1)) = countL (l.take j) + countT t := by
 induction l generalizing j with
 | nil => simp at h
 | cons a l ih =>
   cases j with
   | zero =>
     simp only [List.getElem?_cons_zero, Option.some.injEq] at h
     subst h
     simp [countL]
   | succ j =>
     rw [List.getElem?_cons_succ] at h
     rw [List.take_succ_cons, List.take_succ_cons]
     unfold countL
     rw [ih h]
     omega
theorem countM_tk {l : List (ByteArray × JV)} {j : Nat} {t : ByteArray × JV} (h : l[j]? = some t) : countM (l.take (j + 1)) = countM (l.take j) + countT t.2 := by
 induction l generalizing j with
 | nil => simp at h
 | cons a l ih =>
   obtain ⟨a1, a2⟩ := a
   cases j with
   | zero =>
     simp only [List.getElem?_cons_zero, Option.some.injEq] at h
     subst h
     simp [countM]
   | succ j =>
     rw [List.getElem?_cons_succ] at h
     rw [List.take_succ_cons, List.take_succ_cons]
     unfold countM
     rw [ih h]
     omega
theorem countL_mono (l : List JV) (j : Nat) : countL (l.take j) <= countL l := by
 induction l generalizing j with
 | nil => simp
 | cons a l ih =>
   cases j with
   | zero => rw [List.take_zero, countL]; exact Nat.zero_le _
   | succ j => rw [List.take_succ_cons, countL, countL]; have := ih j; omega
theorem countM_mono (l : List (ByteArray × JV)) (j : Nat) : countM (l.take j) <= countM l := by
 induction l generalizing j with
 | nil => simp
 | cons a l ih =>
   obtain ⟨a1, a2⟩ := a
   cases j with
   | zero => rw [List.take_zero, countM]; exact Nat.zero_le _
   | succ j => rw [List.take_succ_cons, countM, countM]; have := ih j; omega
theorem cnt7_any (N : Nat) : ∀ (t : JV) (r : RV) (most : Nat) (w : World), SizeOf.sizeOf t <= N -> most <= 1000000 -> TreeOf w w.heap.size t r -> t.Ok ->
 Calls Tryz.prog 48 #[r.val, .int .i64 (most : Int)] w fun e w' => ∃ c : Nat, e = .returned (.int .i64 (c : Int)) /\ (c <= most + 1 /\ c <= countT t /\ (c <= most -> c = countT t)) /\ Below w.heap.size w w' := by
 induction N with
 | zero => intro t r most w hN; cases t; simp at hN
 | succ N ih =>
   intro t r most w hN hmost ht ot
   cases ht with
   | @mk _ l m rs rms hl el hcl hm em hcn hcm =>
   obtain ⟨k, n, s, pl, nl, cl, pm, nm, cm⟩ := r
   cases ot with
   | mk _ _ hss bl bm okl oks okm =>
   dsimp only [RV.val] at *
   have eL := rd_nlen hl
   have eM := rd_nlen hm
   have HT : Hid (∀ (i : Nat) t q, l[i]? = some t -> rs[i]? = some q -> ∀ W, Below w.heap.size w W -> ∀ (g : Nat) (k : Int), k = ((most - g : Nat) : Int) -> Calls Tryz.prog 48 #[q.val, .int .i64 k] W fun e w' => ∃ c : Nat, e = .returned (.int .i64 (c : Int)) /\ (c <= (most - g) + 1 /\ c <= countT t /\ (c <= most - g -> c = countT t)) /\ Below W.heap.size W w') :=
    fun i t q h1 h2 W hb g k' hk => by subst hk; exact ih t q (most - g) W (by have := JV.lt_l (k := k) (n := n) (s := s) (m := m) h1; omega) (by omega) ((hcl i t q h1 h2).under hb hb.size) (okl i t h1)
   have HS : Hid (∀ (i : Nat) p q, m[i]? = some p -> rms[i]? = some q -> ∀ W, Below w.heap.size w W -> ∀ (g : Nat) (k : Int), k = ((most - g : Nat) : Int) -> Calls Tryz.prog 48 #[q.v.val, .int .i64 k] W fun e w' => ∃ c : Nat, e = .returned (.int .i64 (c : Int)) /\ (c <= (most - g) + 1 /\ c <= countT p.2 /\ (c <= most - g -> c = countT p.2)) /\ Below W.heap.size W w') :=
    fun i p q h1 h2 W hb g k' hk => by subst hk; exact ih p.2 q.v (most - g) W (by have := JV.lt_m (k := k) (n := n) (s := s) (l := l) h1; omega) (by omega) ((hcm i p q h1 h2).under hb hb.size) (okm i p h1)
   have HFT : Hid (countT (.mk k n s l m) = 1 + countL l + countM m) := by unfold Hid; rw [countT]
   have HL := Lib.hid hl
   have HM := Lib.hid hm
   have E1 : Hid (l.length = nl /\ rs.length = nl) := ⟨by omega, by omega⟩
   have E2 : Hid (m.length = nm /\ rms.length = nm) := ⟨by omega, by omega⟩
   have hnl : nl <= 1759218604390 := by omega
   have hnm : nm <= 1466015503658 := by omega
   have hst : 1 <= 1 := Nat.le_refl 1
   have hst0 : (0 : Int) <= ((1 : Nat) : Int) := Int.natCast_nonneg _
   obtain ⟨R, hR⟩ : ∃ R, countT (.mk k n s l m) = R := ⟨_, rfl⟩
   rw [hR] at HFT ⊢
   clear hR
   have hA0 : VAt (w.alloc (.cells #[.int .i64 k, .int .i64 n, .string s, .slice pl nl cl, .slice pm nm cm] 25)) w.heap.size ⟨k, n, s, pl, nl, cl, pm, nm, cm⟩ := heap_alloc_at rfl
   have hB0 : Below w.heap.size w (w.alloc (.cells #[.int .i64 k, .int .i64 n, .string s, .slice pl nl cl, .slice pm nm cm] 25)) := (Below.refl _ _).alloc (Nat.le_refl _) _
   clear ih hcl hcn hcm hl hm okl oks okm el em bl bm eL eM hN
   go_enter Tryz.func48, Tryz.ntmps48
   go_upto_region 1 with fail
   obtain ⟨W0, hW0⟩ : ∃ W0, (w.alloc (.cells #[.int .i64 k, .int .i64 n, .string s, .slice pl nl cl, .slice pm nm cm] 25)) = W0 := ⟨_, rfl⟩
   rw [hW0] at hA0 hB0 ⊢
   clear hW0
   have hz := hA0.lt
   have c2 := hA0.cell 2 rfl
   have c3 := hA0.cell 3 rfl
   have c4 := hA0.cell 4 rfl
   dsimp only at c2 c3 c4
   clear hA0
   go_wp2_with fail
   go_loopw [5, 6] (fun a i wr => ∃ (g j : Nat), j <= nl /\ g <= most + 1 /\ Hid (g <= 1 + countL (l.take j) /\ (g <= most -> g = 1 + countL (l.take j))) /\ a = .int .i64 (g : Int) /\ i = .int .i64 j /\ Below W0.heap.size W0 wr) (fun _ i _ => nl - (intOf i).toNat)
   case atStart => exact ⟨1, 0, Nat.zero_le _, by omega, ⟨by rw [List.take_zero]; exact Nat.le_add_right _ _, fun _ => by (rw [List.take_zero, countL]; try omega)⟩, rfl, rfl, Below.refl _ _⟩
   case round =>
    obtain ⟨g, j, hj, hgb, HG, rfl, rfl, hbr⟩ := hrel
    have c3 := bcs hbr hz c3
    have hbw : Below w.heap.size w wr := hB0.trans (hbr.mono hB0.size)
    obtain ⟨wo, rfl⟩ : ∃ wo : World, wo = wr := ⟨_, rfl⟩
    have hg0 : (0 : Int) <= (g : Int) := Int.natCast_nonneg _
    by_cases hgo : j < nl /\ g <= most
    ·obtain ⟨hlt, hgm⟩ := hgo
     obtain ⟨tx, htx⟩ : ∃ x, l[j]? = some x := ⟨_, List.getElem?_eq_getElem (by have := E1.out; omega)⟩
     obtain ⟨x, hx⟩ : ∃ x, rs[j]? = some x := ⟨_, List.getElem?_eq_getElem (by have := E1.out; omega)⟩
     obtain ⟨b1, o1, rfl, hb1, hc1⟩ := rd_at' (HL.out.below hbw (Nat.le_refl _)) hx
     have f0 := hc1 0 _ rfl
     have f1 := hc1 1 _ rfl
     have f2 := hc1 2 _ rfl
     have f3 := hc1 3 _ rfl
     have f4 := hc1 4 _ rfl
     rw [Nat.add_zero] at f0
     have HC := Lib.hid (HT.out j tx x htx hx)
     have hk0 : (0 : Int) <= (j : Int) := Int.natCast_nonneg _
     have hk1 : (j : Int) < (nl : Int) := by omega
     have hgi : (g : Int) <= (most : Int) := by omega
     have hdg : decide ((g : Int) <= (most : Int)) = true := decide_eq_true hgi
     have hzr : W0.heap.size <= wo.heap.size := hbr.size
     have HBR := Lib.hid hbr
     have HTK := Lib.hid (countL_tk htx)
     clear hc1 htx hx hbr
     go_wp2_with (go_at_call 48; (with_reducible refine (HC.out _ hbw g _ ?num).mono ?_); (case num => (first | omega | (rw [IntKind.wrap_i64]; omega))); rintro e w1 ⟨c, rfl, ⟨hc1', hc2', hc3'⟩, hb1'⟩; (have hcc : (0 : Int) <= (c : Int) := Int.natCast_nonneg _))
     go_roundw
     case rel =>
      obtain ⟨hG1, hG2⟩ := HG.out
      exact ⟨g + c, j + 1, by omega, by omega, ⟨by rw [HTK.out]; omega, fun h => by rw [HTK.out, hG2 (by omega), hc3' (by omega)]; omega⟩, by go_num, by go_num, HBR.out.trans (hb1'.mono (by omega))⟩
     case measure => simp [intOf]; omega
    ·have hz1 : W0.heap.size <= wo.heap.size := hbr.size
     have c4 := bcs hbr hz c4
     have HG1 : Hid (g <= 1 + countL l /\ (g <= most -> g = 1 + countL l)) := by
      obtain ⟨hG1, hG2⟩ := HG.out
      have := countL_mono l j
      refine ⟨by omega, fun h => ?_⟩
      have hjn : j = nl := by omega
      have hln := E1.out.1
      rw [hG2 h, hjn, <- hln, List.take_length]
     clear HT HL E1 hbr HG
     by_cases p1 : j < nl
     all_goals (try (have hgm : ¬ g <= most := fun h => hgo ⟨p1, h⟩))
     all_goals (try (have hdg : decide ((g : Int) <= (most : Int)) = false := decide_eq_false (by omega)))
     all_goals clear hgo
     all_goals go_wp2_with fail
     all_goals clear c3
     all_goals (
     go_loopw [5, 7] (fun a i wq => ∃ (g j : Nat), j <= nm /\ g <= most + 1 /\ Hid (g <= 1 + countL l + countM (m.take j) /\ (g <= most -> g = 1 + countL l + countM (m.take j))) /\ a = .int .i64 (g : Int) /\ i = .int .i64 j /\ Below wo.heap.size wo wq) (fun _ i _ => nm - (intOf i).toNat)
     case atStart => exact ⟨g, 0, Nat.zero_le _, hgb, ⟨by rw [List.take_zero, countM]; exact HG1.out.1, fun h => by rw [List.take_zero, countM]; exact HG1.out.2 h⟩, rfl, rfl, Below.refl _ _⟩
     case round =>
      clear hgb hg0
      try clear hgm
      try clear hdg
      obtain ⟨g, j, hj, hgb, HG, rfl, rfl, hbr⟩ := hrel
      have hg0 : (0 : Int) <= (g : Int) := Int.natCast_nonneg _
      have hbw2 : Below w.heap.size w wr := hbw.trans (hbr.mono (by omega))
      have c4 := bcs hbr (by omega) c4
      obtain ⟨w3, rfl⟩ : ∃ w3 : World, w3 = wr := ⟨_, rfl⟩
      by_cases hgo : j < nm /\ g <= most
      ·obtain ⟨hlt, hgm⟩ := hgo
       obtain ⟨tx, htx⟩ : ∃ x, m[j]? = some x := ⟨_, List.getElem?_eq_getElem (by have := E2.out; omega)⟩
       obtain ⟨x, hx⟩ : ∃ x, rms[j]? = some x := ⟨_, List.getElem?_eq_getElem (by have := E2.out; omega)⟩
       obtain ⟨b1, o1, rfl, hb1, hc1⟩ := rd_at' (HM.out.below hbw2 (Nat.le_refl _)) hx
       have f0 := hc1 0 _ rfl
       have f1 := hc1 1 _ rfl
       have f2 := hc1 2 _ rfl
       have f3 := hc1 3 _ rfl
       have f4 := hc1 4 _ rfl
       have f5 := hc1 5 _ rfl
       rw [Nat.add_zero] at f0
       have HC := Lib.hid (HS.out j tx x htx hx)
       have hk0 : (0 : Int) <= (j : Int) := Int.natCast_nonneg _
       have hk1 : (j : Int) < (nm : Int) := by omega
       have hgi : (g : Int) <= (most : Int) := by omega
       have hdg : decide ((g : Int) <= (most : Int)) = true := decide_eq_true hgi
       have HBR := Lib.hid hbr
       have hzq : wo.heap.size <= w3.heap.size := hbr.size
       have HTK := Lib.hid (countM_tk htx)
       clear hc1 htx hx hbr
       go_wp2_with (go_at_call 48; (with_reducible refine (HC.out _ hbw2 g _ ?num).mono ?_); (case num => (first | omega | (rw [IntKind.wrap_i64]; omega))); rintro e w1 ⟨c, rfl, ⟨hc1', hc2', hc3'⟩, hb1'⟩; (have hcc : (0 : Int) <= (c : Int) := Int.natCast_nonneg _))
       go_roundw
       case rel =>
        obtain ⟨hG1, hG2⟩ := HG.out
        exact ⟨g + c, j + 1, by omega, by omega, ⟨by rw [HTK.out]; omega, fun h => by rw [HTK.out, hG2 (by omega), hc3' (by omega)]; omega⟩, by go_num, by go_num, HBR.out.trans (hb1'.mono (by omega))⟩
       case measure => simp [intOf]; omega
      ·have HG2 : Hid (g <= R /\ (g <= most -> g = R)) := by
        obtain ⟨hG1, hG2⟩ := HG.out
        have := countM_mono m j
        unfold Hid
        rw [HFT.out]
        refine ⟨by omega, fun h => ?_⟩
        have hjn : j = nm := by omega
        have hln := E2.out.1
        rw [hG2 h, hjn, <- hln, List.take_length]
       by_cases p1 : j < nm
       all_goals (try (have hgm : ¬ g <= most := fun h => hgo ⟨p1, h⟩))
       all_goals (try (have hdg : decide ((g : Int) <= (most : Int)) = false := decide_eq_false (by omega)))
       all_goals clear hgo
       all_goals go_wp2_with fail
       all_goals go_ret
       all_goals exact ⟨g, rfl, ⟨hgb, HG2.out.1, HG2.out.2⟩, hbw2⟩)
end
section
open Go.RowKit Go.OpenShut
def SomeC (t : JV) (n most : Nat) (w : World) (e : Ending) (w' : World) : Prop := ∃ b : Bool, e = .returned (.bool b) /\ Hid (b = true -> n <= 10000 /\ OwnM t /\ countT t <= most) /\ Below w.heap.size w w'
theorem few7c_any (t : JV) (r : RV) (most : Nat) (w : World) (hmost : most <= 1000000) (ht : TreeOf w w.heap.size t r) (ot : t.Ok) :
 Calls Tryz.prog 18 #[r.val, .int .i64 (most : Int)] w (SomeC t r.nm most w) := by
 have HT := Lib.hid ht
 have hA0 : VAt (w.alloc (.cells #[.int .i64 r.k, .int .i64 r.n, .string r.s, .slice r.pl r.nl r.cl, .slice r.pm r.nm r.cm] 25)) w.heap.size r := heap_alloc_at rfl
 have hB0 : Below w.heap.size w (w.alloc (.cells #[.int .i64 r.k, .int .i64 r.n, .string r.s, .slice r.pl r.nl r.cl, .slice r.pm r.nm r.cm] 25)) := (Below.refl _ _).alloc (Nat.le_refl _) _
 clear ht
 go_enter Tryz.func18, Tryz.ntmps18
 go_upto_region 1 with fail
 obtain ⟨W0, hW0⟩ : ∃ W0, (w.alloc (.cells #[.int .i64 r.k, .int .i64 r.n, .string r.s, .slice r.pl r.nl r.cl, .slice r.pm r.nm r.cm] 25)) = W0 := ⟨_, rfl⟩
 rw [hW0] at hA0 hB0 ⊢
 clear hW0
 have hz := hA0.lt
 obtain ⟨c0, c1, c2, c3, c4⟩ := hA0.cells5
 clear hA0
 have HD : Hid (∀ W, Below w.heap.size w W -> Calls Tryz.prog 47 #[r.val, .int .i64 100] W (SomeF r.nm W)) := fun W hb => deep7_any t r W (HT.out.under hb hb.size) ot
 have HN : Hid (∀ W, Below w.heap.size w W -> Calls Tryz.prog 48 #[r.val, .int .i64 (most : Int)] W fun e w' => ∃ c : Nat, e = .returned (.int .i64 (c : Int)) /\ (c <= most + 1 /\ c <= countT t /\ (c <= most -> c = countT t)) /\ Below W.heap.size W w') := fun W hb => cnt7_any _ t r most W (Nat.le_refl _) hmost (HT.out.under hb hb.size) ot
 have HO : Hid (∀ W, Below w.heap.size w W -> Calls Tryz.prog 49 #[r.val] W (OwnRet7 W t)) := fun W hb => own7m_any _ t r W (Nat.le_refl _) (HT.out.under hb hb.size) ot
 go_wp2_with (first
  | (go_at_call 47; refine (HD.out _ hB0).mono ?_; rintro e w1 ⟨b1, rfl, hbL, hbA⟩; (have hb1 := hB0.trans (hbA.mono hB0.size)); (have d0 := bcs hbA hz c0); (have d1 := bcs hbA hz c1); (have d2 := bcs hbA hz c2); (have d3 := bcs hbA hz c3); (have d4 := bcs hbA hz c4); cases b1)
  | (go_at_call 48; refine (HN.out _ hb1).mono ?_; rintro e w2 ⟨d, rfl, hdd, hbB⟩; (have hb2 := hb1.trans (hbB.mono hb1.size)); (have hz1 := Nat.lt_of_lt_of_le hz hbA.size); (have e0 := bcs hbB hz1 d0); (have e1 := bcs hbB hz1 d1); (have e2 := bcs hbB hz1 d2); (have e3 := bcs hbB hz1 d3); (have e4 := bcs hbB hz1 d4); (by_cases hd : (d : Int) <= (most : Int)))
  | (go_at_call 49; refine (HO.out _ hb2).mono ?_; rintro e w3 ⟨b3, rfl, hM, hbC⟩; (have hb3 := hb2.trans (hbC.mono hb2.size))))
 all_goals go_ret
 all_goals first | (refine ⟨b3, rfl, ?_, hb3⟩; have h := hbL.out; exact fun hb => ⟨h trivial, hM.out hb, by have := hdd.2.2 (by omega); omega⟩) | exact ⟨false, rfl, (fun h => by cases h), hb2⟩ | exact ⟨false, rfl, (fun h => by cases h), hb1⟩
end
end Go.Proofs.YtffhccmppdgmfaaGreatDoor
