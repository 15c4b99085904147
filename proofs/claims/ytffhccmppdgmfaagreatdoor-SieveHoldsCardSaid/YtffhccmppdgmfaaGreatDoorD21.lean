import Derived.Test.YtffhccmppdgmfaaGreatDoorD20
import Derived.Test.YtffhccmppdgmfaaGreatDoorD09
import Derived.Test.YtffhccmppdgmfaaGreatDoorD10
import Derived.Test.YtffhccmppdgmfaaGreatDoorD00
import Derived.Test.YtffhccmppdgmfaaGreatDoorD03
import Derived.Test.YtffhccmppdgmfaaGreatDoorD06
import Derived.Test.YtffhccmppdgmfaaGreatDoorD04
import Derived.Test.YtffhccmppdgmfaaGreatDoorD01
set_option linter.unusedSimpArgs false
set_option linter.unusedVariables false
set_option maxRecDepth 200000
set_option maxHeartbeats 8000000
namespace Go.Proofs.YtffhccmppdgmfaaGreatDoor
section
open Go.RowKit Go.OpenShut
def OwnN (t : JV) : Prop := OwnM t /\ (t.k ≠ 6 -> t.m = [])
def OwnRet8 (w : World) (t : JV) (e : Ending) (w' : World) : Prop := ∃ b : Bool, e = .returned (.bool b) /\ Hid (b = true -> OwnN t) /\ Below w.heap.size w w'
theorem own_leaf6 {k : Int} {nl : Nat} {b5 : Bool} (h5 : (k != 6) = b5) (h : b5 = true -> ¬ 0 < nl) : k ≠ 6 -> nl = 0 := fun hk => by
 have h2 : (k != 6) = true := by simpa using hk
 have := h (h5.symm.trans h2)
 omega
theorem own8_any (N : Nat) : ∀ (t : JV) (r : RV) (w : World), SizeOf.sizeOf t <= N -> TreeOf w w.heap.size t r -> t.Ok ->
 Calls Tryz.prog 49 #[r.val] w (OwnRet8 w t) := by
 induction N with
 | zero => intro t r w hN; cases t; simp at hN
 | succ N ih =>
   intro t r w hN ht ot
   cases ht with
   | @mk _ l m rs rms hl el hcl hm em hcn hcm =>
   obtain ⟨k, n, s, pl, nl, cl, pm, nm, cm⟩ := r
   cases ot with
   | mk _ _ _ bl bm okl oks okm =>
   dsimp only [RV.val] at *
   have eL := rd_nlen hl
   have eM := rd_nlen hm
   have HT : Hid (∀ (i : Nat) t q, l[i]? = some t -> rs[i]? = some q -> ∀ W, Below w.heap.size w W -> Calls Tryz.prog 49 #[q.val] W (OwnRet8 W t)) :=
    fun i t q h1 h2 W hb => ih t q W (by have := JV.lt_l (k := k) (n := n) (s := s) (m := m) h1; omega) ((hcl i t q h1 h2).under hb hb.size) (okl i t h1)
   have HS : Hid (∀ (i : Nat) p q, m[i]? = some p -> rms[i]? = some q -> ∀ W, Below w.heap.size w W -> Calls Tryz.prog 49 #[q.v.val] W (OwnRet8 W p.2)) :=
    fun i p q h1 h2 W hb => ih p.2 q.v W (by have := JV.lt_m (k := k) (n := n) (s := s) (l := l) h1; omega) ((hcm i p q h1 h2).under hb hb.size) (okm i p h1)
   have HL := Lib.hid hl
   have HM := Lib.hid hm
   have E1 : Hid (l.length = nl /\ rs.length = nl) := ⟨by omega, by omega⟩
   have HE1 : Hid (l.length = nl) := by unfold Hid; omega
   have E2 : Hid (m.length = nm /\ rms.length = nm) := ⟨by omega, by omega⟩
   have hnl : nl <= 1759218604390 := by omega
   have hnm : nm <= 1466015503658 := by omega
   have hA0 : VAt (w.alloc (.cells #[.int .i64 k, .int .i64 n, .string s, .slice pl nl cl, .slice pm nm cm] 25)) w.heap.size ⟨k, n, s, pl, nl, cl, pm, nm, cm⟩ := heap_alloc_at rfl
   have hB0 : Below w.heap.size w (w.alloc (.cells #[.int .i64 k, .int .i64 n, .string s, .slice pl nl cl, .slice pm nm cm] 25)) := (Below.refl _ _).alloc (Nat.le_refl _) _
   clear ih hcl hcn hcm hl hm okl oks okm el em bl bm eL eM hN
   go_enter Tryz.func49, Tryz.ntmps49
   go_upto_region 1 with fail
   obtain ⟨W0, hW0⟩ : ∃ W0, (w.alloc (.cells #[.int .i64 k, .int .i64 n, .string s, .slice pl nl cl, .slice pm nm cm] 25)) = W0 := ⟨_, rfl⟩
   rw [hW0] at hA0 hB0 ⊢
   clear hW0
   have hz := hA0.lt
   have c0 := hA0.cell 0 rfl
   have c3 := hA0.cell 3 rfl
   have c4 := hA0.cell 4 rfl
   dsimp only at c0 c3 c4
   have HA := Lib.hid hA0
   clear hA0
   go_cut [24] from 5 to 24 (fun v wr => ∃ b : Bool, v = .bool b /\ Hid ((b = false -> k ≠ 5 -> nl = 0) /\ (b = false -> k ≠ 6 -> nm = 0)) /\ wr = W0)
   case first =>
    cases h5 : (k != 5) <;> cases h6 : (k != 6) <;> by_cases p1 : 0 < nl <;> by_cases p2 : 0 < nm
    all_goals go_wp2_with fail
    all_goals (go_meet; exact ⟨_, rfl, ⟨fun hb => by first | (cases hb; done) | exact own_leaf h5 (fun h => by first | (cases h; done) | exact p1), fun hb => by first | (cases hb; done) | exact own_leaf6 h6 (fun h => by first | (cases h; done) | exact p2)⟩, rfl⟩)
   case rest =>
   obtain ⟨b, rfl, HB5, rfl⟩ := hcut
   cases b with
   | true =>
     go_wp2_with fail
     go_ret
     exact ⟨false, rfl, (fun h => by cases h), hB0⟩
   | false =>
     go_wp2_with fail
     go_loopw [3] (fun i wr => ∃ j : Nat, j <= nl /\ i = .int .i64 j /\ Below wc.heap.size wc wr) (fun i _ => nl - (intOf i).toNat)
     case atStart => exact ⟨0, Nat.zero_le _, rfl, Below.refl _ _⟩
     case round =>
      obtain ⟨j, hj, rfl, hbr⟩ := hrel
      have c3 := bcs hbr hz c3
      have hbw : Below w.heap.size w wr := hB0.trans (hbr.mono hB0.size)
      by_cases hlt : j < nl
      ·obtain ⟨tx, htx⟩ : ∃ x, l[j]? = some x := ⟨_, List.getElem?_eq_getElem (by have := E1.out; omega)⟩
       obtain ⟨x, hx⟩ : ∃ x, rs[j]? = some x := ⟨_, List.getElem?_eq_getElem (by have := E1.out; omega)⟩
       obtain ⟨b1, o1, rfl, hb1, hc1⟩ := rd_at' (HL.out.below hbw (Nat.le_refl _)) hx
       have f0 := hc1 0 _ rfl
       have f1 := hc1 1 _ rfl
       have f2 := hc1 2 _ rfl
       have f3 := hc1 3 _ rfl
       have f4 := hc1 4 _ rfl
       rw [Nat.add_zero] at f0
       have HC := Lib.hid (HT.out j tx x htx hx)
       have hk0 : (0 : Int) <= (j : Int) := Int.natCast_nonneg _
       have hk1 : (j : Int) < (nl : Int) := by omega
       have hzr : wc.heap.size <= wr.heap.size := hbr.size
       have HBR := Lib.hid hbr
       clear hc1 htx hx hbr
       go_wp2_with (go_at_call 49; refine (HC.out _ hbw).mono ?_; rintro e w1 ⟨b, rfl, hM, hb1'⟩; cases b)
       ·go_ret
        exact ⟨false, rfl, (fun h => by cases h), hbw.trans (hb1'.mono hbw.size)⟩
       ·go_roundw
        case rel => exact ⟨j + 1, by omega, by go_num, HBR.out.trans (hb1'.mono (by omega))⟩
        case measure => simp [intOf]; omega
      ·obtain rfl : j = nl := by omega
       have hz1 : wc.heap.size <= wr.heap.size := hbr.size
       have c4 := bcs hbr hz c4
       clear HT HL E1 hbr
       obtain ⟨wo, rfl⟩ : ∃ wo : World, wo = wr := ⟨_, rfl⟩
       go_wp2_with fail
       clear c3
       go_loopw [4] (fun i wq => ∃ j : Nat, j <= nm /\ i = .int .i64 j /\ Hid (∀ (i : Nat) p, i < j -> m[i]? = some p -> p.2.k ≠ 5 -> p.2.l = []) /\ Below wo.heap.size wo wq) (fun i _ => nm - (intOf i).toNat)
       case atStart => exact ⟨0, Nat.zero_le _, rfl, (fun i p h => by omega), Below.refl _ _⟩
       case round =>
        obtain ⟨wq, rfl⟩ : ∃ wq : World, wq = wr := ⟨_, rfl⟩
        obtain ⟨j, hj, rfl, HMJ, hbr⟩ := hrel
        have hbw2 : Below w.heap.size w wq := hbw.trans (hbr.mono (by omega))
        have c4 := bcs hbr (by omega) c4
        by_cases hlt : j < nm
        ·obtain ⟨tx, htx⟩ : ∃ x, m[j]? = some x := ⟨_, List.getElem?_eq_getElem (by have := E2.out; omega)⟩
         obtain ⟨x, hx⟩ : ∃ x, rms[j]? = some x := ⟨_, List.getElem?_eq_getElem (by have := E2.out; omega)⟩
         obtain ⟨b1, o1, rfl, hb1, hc1⟩ := rd_at' (HM.out.below hbw2 (Nat.le_refl _)) hx
         have f0 := hc1 0 _ rfl
         have f1 := hc1 1 _ rfl
         have f2 := hc1 2 _ rfl
         have f3 := hc1 3 _ rfl
         have f4 := hc1 4 _ rfl
         have f5 := hc1 5 _ rfl
         rw [Nat.add_zero] at f0
         have HC := Lib.hid (HS.out j tx x htx hx)
         have HTX := Lib.hid htx
         have hk0 : (0 : Int) <= (j : Int) := Int.natCast_nonneg _
         have hk1 : (j : Int) < (nm : Int) := by omega
         have hzr : wc.heap.size <= wq.heap.size := by have := hbr.size; omega
         have hzq : wo.heap.size <= wq.heap.size := hbr.size
         have HBR := Lib.hid hbr
         clear hc1 htx hx hbr
         go_wp2_with (go_at_call 49; refine (HC.out _ hbw2).mono ?_; rintro e w1 ⟨b, rfl, hM, hb1'⟩; cases b)
         ·go_ret
          exact ⟨false, rfl, (fun h => by cases h), hbw2.trans (hb1'.mono hbw2.size)⟩
         ·go_roundw
          case rel =>
           refine ⟨j + 1, by omega, by go_num, fun i p hi hp => ?_, HBR.out.trans (hb1'.mono (by omega))⟩
           by_cases hij : i < j
           ·exact HMJ.out i p hij hp
           ·obtain rfl : i = j := by omega
            obtain rfl : tx = p := Option.some.inj (HTX.out.symm.trans hp)
            exact (hM.out (by trivial)).1.1
          case measure => simp [intOf]; omega
        ·obtain rfl : j = nm := by omega
         go_wp2_with fail
         go_ret
         refine ⟨true, rfl, fun _ => ⟨⟨fun hk => ?_, fun p hp => ?_⟩, fun hk => ?_⟩, hbw2⟩
         ·have h1 := HB5.out.1 (by trivial) hk
          have h2 := HE1.out
          exact List.eq_nil_of_length_eq_zero (by show l.length = 0; omega)
         ·obtain ⟨i, hi⟩ := List.getElem?_of_mem hp
          have hlt := (List.getElem?_eq_some_iff.1 hi).1
          exact HMJ.out i p (by have := E2.out; have h3 : i < m.length := hlt; omega) hi
         ·have h1 := HB5.out.2 (by trivial) hk
          have h2 := E2.out.1
          exact List.eq_nil_of_length_eq_zero (by show m.length = 0; omega)
def SomeN (t : JV) (n most : Nat) (w : World) (e : Ending) (w' : World) : Prop := ∃ b : Bool, e = .returned (.bool b) /\ Hid (b = true -> n <= 10000 /\ OwnN t /\ countT t <= most) /\ Below w.heap.size w w'
theorem few7n_any (t : JV) (r : RV) (most : Nat) (w : World) (hmost : most <= 1000000) (ht : TreeOf w w.heap.size t r) (ot : t.Ok) :
 Calls Tryz.prog 18 #[r.val, .int .i64 (most : Int)] w (SomeN t r.nm most w) := by
 have HT := Lib.hid ht
 have hA0 : VAt (w.alloc (.cells #[.int .i64 r.k, .int .i64 r.n, .string r.s, .slice r.pl r.nl r.cl, .slice r.pm r.nm r.cm] 25)) w.heap.size r := heap_alloc_at rfl
 have hB0 : Below w.heap.size w (w.alloc (.cells #[.int .i64 r.k, .int .i64 r.n, .string r.s, .slice r.pl r.nl r.cl, .slice r.pm r.nm r.cm] 25)) := (Below.refl _ _).alloc (Nat.le_refl _) _
 clear ht
 go_enter Tryz.func18, Tryz.ntmps18
 go_upto_region 1 with fail
 obtain ⟨W0, hW0⟩ : ∃ W0, (w.alloc (.cells #[.int .i64 r.k, .int .i64 r.n, .string r.s, .slice r.pl r.nl r.cl, .slice r.pm r.nm r.cm] 25)) = W0 := ⟨_, rfl⟩
 rw [hW0] at hA0 hB0 ⊢
 clear hW0
 have hz := hA0.lt
 obtain ⟨c0, c1, c2, c3, c4⟩ := hA0.cells5
 clear hA0
 have HD : Hid (∀ W, Below w.heap.size w W -> Calls Tryz.prog 47 #[r.val, .int .i64 100] W (SomeF r.nm W)) := fun W hb => deep7_any t r W (HT.out.under hb hb.size) ot
 have HN : Hid (∀ W, Below w.heap.size w W -> Calls Tryz.prog 48 #[r.val, .int .i64 (most : Int)] W fun e w' => ∃ c : Nat, e = .returned (.int .i64 (c : Int)) /\ (c <= most + 1 /\ c <= countT t /\ (c <= most -> c = countT t)) /\ Below W.heap.size W w') := fun W hb => cnt7_any _ t r most W (Nat.le_refl _) hmost (HT.out.under hb hb.size) ot
 have HO : Hid (∀ W, Below w.heap.size w W -> Calls Tryz.prog 49 #[r.val] W (OwnRet8 W t)) := fun W hb => own8_any _ t r W (Nat.le_refl _) (HT.out.under hb hb.size) ot
 go_wp2_with (first
  | (go_at_call 47; refine (HD.out _ hB0).mono ?_; rintro e w1 ⟨b1, rfl, hbL, hbA⟩; (have hb1 := hB0.trans (hbA.mono hB0.size)); (have d0 := bcs hbA hz c0); (have d1 := bcs hbA hz c1); (have d2 := bcs hbA hz c2); (have d3 := bcs hbA hz c3); (have d4 := bcs hbA hz c4); cases b1)
  | (go_at_call 48; refine (HN.out _ hb1).mono ?_; rintro e w2 ⟨d, rfl, hdd, hbB⟩; (have hb2 := hb1.trans (hbB.mono hb1.size)); (have hz1 := Nat.lt_of_lt_of_le hz hbA.size); (have e0 := bcs hbB hz1 d0); (have e1 := bcs hbB hz1 d1); (have e2 := bcs hbB hz1 d2); (have e3 := bcs hbB hz1 d3); (have e4 := bcs hbB hz1 d4); (by_cases hd : (d : Int) <= (most : Int)))
  | (go_at_call 49; refine (HO.out _ hb2).mono ?_; rintro e w3 ⟨b3, rfl, hM, hbC⟩; (have hb3 := hb2.trans (hbC.mono hb2.size))))
 all_goals go_ret
 all_goals first | (refine ⟨b3, rfl, ?_, hb3⟩; have h := hbL.out; exact fun hb => ⟨h trivial, hM.out hb, by have := hdd.2.2 (by omega); omega⟩) | exact ⟨false, rfl, (fun h => by cases h), hb2⟩ | exact ⟨false, rfl, (fun h => by cases h), hb1⟩
end
section
open Go Go.RowKit Go.OpenShut
theorem sizeL_tk {l : List JV} {j : Nat} {t : JV} (h : l[j]? = some t) : sizeL (l.take (j + 1)) = sizeL (l.take j) + sizeT t := by
 induction l generalizing j with
 | nil => simp at h
 | cons a l ih =>
   cases j with
   | zero =>
     simp only [List.getElem?_cons_zero, Option.some.injEq] at h
     subst h
     simp [sizeL]
   | succ j =>
     rw [List.getElem?_cons_succ] at h
     rw [List.take_succ_cons, List.take_succ_cons]
     unfold sizeL
     rw [ih h]
     omega
theorem sizeM_tk {l : List (ByteArray × JV)} {j : Nat} {t : ByteArray × JV} (h : l[j]? = some t) : sizeM (l.take (j + 1)) = sizeM (l.take j) + sizeT t.2 := by
 induction l generalizing j with
 | nil => simp at h
 | cons a l ih =>
   obtain ⟨a1, a2⟩ := a
   cases j with
   | zero =>
     simp only [List.getElem?_cons_zero, Option.some.injEq] at h
     subst h
     simp [sizeM]
   | succ j =>
     rw [List.getElem?_cons_succ] at h
     rw [List.take_succ_cons, List.take_succ_cons]
     unfold sizeM
     rw [ih h]
     omega
theorem sizeL_mono (l : List JV) (j : Nat) : sizeL (l.take j) <= sizeL l := by
 induction l generalizing j with
 | nil => simp
 | cons a l ih =>
   cases j with
   | zero => rw [List.take_zero, sizeL]; exact Nat.zero_le _
   | succ j => rw [List.take_succ_cons, sizeL, sizeL]; have := ih j; omega
theorem sizeM_mono (l : List (ByteArray × JV)) (j : Nat) : sizeM (l.take j) <= sizeM l := by
 induction l generalizing j with
 | nil => simp
 | cons a l ih =>
   obtain ⟨a1, a2⟩ := a
   cases j with
   | zero => rw [List.take_zero, sizeM]; exact Nat.zero_le _
   | succ j => rw [List.take_succ_cons, sizeM, sizeM]; have := ih j; omega
theorem size20_any (N : Nat) : ∀ (t : JV) (r : RV) (most : Nat) (w : World), SizeOf.sizeOf t <= N -> most <= 1000000 -> TreeOf w w.heap.size t r -> t.Ok ->
 Calls Tryz.prog 52 #[r.val, .int .i64 (most : Int)] w fun e w' => ∃ c : Nat, e = .returned (.int .i64 (c : Int)) /\ (c <= most + 140737488355328 /\ c <= sizeT t /\ (c <= most -> c = sizeT t)) /\ Below w.heap.size w w' := by
 induction N with
 | zero => intro t r most w hN; cases t; simp at hN
 | succ N ih =>
   intro t r most w hN hmost ht ot
   cases ht with
   | @mk _ l m rs rms hl el hcl hm em hcn hcm =>
   obtain ⟨k, n, s, pl, nl, cl, pm, nm, cm⟩ := r
   cases ot with
   | mk _ _ hss bl bm okl oks okm =>
   dsimp only [RV.val] at *
   have eL := rd_nlen hl
   have eM := rd_nlen hm
   have HT : Hid (∀ (i : Nat) t q, l[i]? = some t -> rs[i]? = some q -> ∀ W, Below w.heap.size w W -> ∀ (g : Nat) (k : Int), k = ((most - g : Nat) : Int) -> Calls Tryz.prog 52 #[q.val, .int .i64 k] W fun e w' => ∃ c : Nat, e = .returned (.int .i64 (c : Int)) /\ (c <= (most - g) + 140737488355328 /\ c <= sizeT t /\ (c <= most - g -> c = sizeT t)) /\ Below W.heap.size W w') :=
    fun i t q h1 h2 W hb g k' hk => by subst hk; exact ih t q (most - g) W (by have := JV.lt_l (k := k) (n := n) (s := s) (m := m) h1; omega) (by omega) ((hcl i t q h1 h2).under hb hb.size) (okl i t h1)
   have HS : Hid (∀ (i : Nat) p q, m[i]? = some p -> rms[i]? = some q -> ∀ W, Below w.heap.size w W -> ∀ (g : Nat) (k : Int), k = ((most - g : Nat) : Int) -> Calls Tryz.prog 52 #[q.v.val, .int .i64 k] W fun e w' => ∃ c : Nat, e = .returned (.int .i64 (c : Int)) /\ (c <= (most - g) + 140737488355328 /\ c <= sizeT p.2 /\ (c <= most - g -> c = sizeT p.2)) /\ Below W.heap.size W w') :=
    fun i p q h1 h2 W hb g k' hk => by subst hk; exact ih p.2 q.v (most - g) W (by have := JV.lt_m (k := k) (n := n) (s := s) (l := l) h1; omega) (by omega) ((hcm i p q h1 h2).under hb hb.size) (okm i p h1)
   have HFT : Hid (sizeT (.mk k n s l m) = s.size + sizeL l + sizeM m) := by unfold Hid; rw [sizeT]
   have HL := Lib.hid hl
   have HM := Lib.hid hm
   have E1 : Hid (l.length = nl /\ rs.length = nl) := ⟨by omega, by omega⟩
   have E2 : Hid (m.length = nm /\ rms.length = nm) := ⟨by omega, by omega⟩
   have hnl : nl <= 1759218604390 := by omega
   have hnm : nm <= 1466015503658 := by omega
   have hst : s.size <= 140737488355328 := by omega
   have hst0 : (0 : Int) <= ((s.size : Nat) : Int) := Int.natCast_nonneg _
   obtain ⟨R, hR⟩ : ∃ R, sizeT (.mk k n s l m) = R := ⟨_, rfl⟩
   rw [hR] at HFT ⊢
   clear hR
   have hA0 : VAt (w.alloc (.cells #[.int .i64 k, .int .i64 n, .string s, .slice pl nl cl, .slice pm nm cm] 25)) w.heap.size ⟨k, n, s, pl, nl, cl, pm, nm, cm⟩ := heap_alloc_at rfl
   have hB0 : Below w.heap.size w (w.alloc (.cells #[.int .i64 k, .int .i64 n, .string s, .slice pl nl cl, .slice pm nm cm] 25)) := (Below.refl _ _).alloc (Nat.le_refl _) _
   clear ih hcl hcn hcm hl hm okl oks okm el em bl bm eL eM hN
   go_enter Tryz.func52, Tryz.ntmps52
   go_upto_region 1 with fail
   obtain ⟨W0, hW0⟩ : ∃ W0, (w.alloc (.cells #[.int .i64 k, .int .i64 n, .string s, .slice pl nl cl, .slice pm nm cm] 25)) = W0 := ⟨_, rfl⟩
   rw [hW0] at hA0 hB0 ⊢
   clear hW0
   have hz := hA0.lt
   have c2 := hA0.cell 2 rfl
   have c3 := hA0.cell 3 rfl
   have c4 := hA0.cell 4 rfl
   dsimp only at c2 c3 c4
   clear hA0
   go_wp2_with fail
   go_loopw [5, 6] (fun a i wr => ∃ (g j : Nat), j <= nl /\ g <= most + 140737488355328 /\ Hid (g <= s.size + sizeL (l.take j) /\ (g <= most -> g = s.size + sizeL (l.take j))) /\ a = .int .i64 (g : Int) /\ i = .int .i64 j /\ Below W0.heap.size W0 wr) (fun _ i _ => nl - (intOf i).toNat)
   case atStart => exact ⟨s.size, 0, Nat.zero_le _, by omega, ⟨by rw [List.take_zero]; exact Nat.le_add_right _ _, fun _ => by (rw [List.take_zero, sizeL]; try omega)⟩, rfl, rfl, Below.refl _ _⟩
   case round =>
    obtain ⟨g, j, hj, hgb, HG, rfl, rfl, hbr⟩ := hrel
    have c3 := bcs hbr hz c3
    have hbw : Below w.heap.size w wr := hB0.trans (hbr.mono hB0.size)
    obtain ⟨wo, rfl⟩ : ∃ wo : World, wo = wr := ⟨_, rfl⟩
    have hg0 : (0 : Int) <= (g : Int) := Int.natCast_nonneg _
    by_cases hgo : j < nl /\ g <= most
    ·obtain ⟨hlt, hgm⟩ := hgo
     obtain ⟨tx, htx⟩ : ∃ x, l[j]? = some x := ⟨_, List.getElem?_eq_getElem (by have := E1.out; omega)⟩
     obtain ⟨x, hx⟩ : ∃ x, rs[j]? = some x := ⟨_, List.getElem?_eq_getElem (by have := E1.out; omega)⟩
     obtain ⟨b1, o1, rfl, hb1, hc1⟩ := rd_at' (HL.out.below hbw (Nat.le_refl _)) hx
     have f0 := hc1 0 _ rfl
     have f1 := hc1 1 _ rfl
     have f2 := hc1 2 _ rfl
     have f3 := hc1 3 _ rfl
     have f4 := hc1 4 _ rfl
     rw [Nat.add_zero] at f0
     have HC := Lib.hid (HT.out j tx x htx hx)
     have hk0 : (0 : Int) <= (j : Int) := Int.natCast_nonneg _
     have hk1 : (j : Int) < (nl : Int) := by omega
     have hgi : (g : Int) <= (most : Int) := by omega
     have hdg : decide ((g : Int) <= (most : Int)) = true := decide_eq_true hgi
     have hzr : W0.heap.size <= wo.heap.size := hbr.size
     have HBR := Lib.hid hbr
     have HTK := Lib.hid (sizeL_tk htx)
     clear hc1 htx hx hbr
     go_wp2_with (go_at_call 52; (with_reducible refine (HC.out _ hbw g _ ?num).mono ?_); (case num => (first | omega | (rw [IntKind.wrap_i64]; omega))); rintro e w1 ⟨c, rfl, ⟨hc1', hc2', hc3'⟩, hb1'⟩; (have hcc : (0 : Int) <= (c : Int) := Int.natCast_nonneg _))
     go_roundw
     case rel =>
      obtain ⟨hG1, hG2⟩ := HG.out
      exact ⟨g + c, j + 1, by omega, by omega, ⟨by rw [HTK.out]; omega, fun h => by rw [HTK.out, hG2 (by omega), hc3' (by omega)]; omega⟩, by go_num, by go_num, HBR.out.trans (hb1'.mono (by omega))⟩
     case measure => simp [intOf]; omega
    ·have hz1 : W0.heap.size <= wo.heap.size := hbr.size
     have c4 := bcs hbr hz c4
     have HG1 : Hid (g <= s.size + sizeL l /\ (g <= most -> g = s.size + sizeL l)) := by
      obtain ⟨hG1, hG2⟩ := HG.out
      have := sizeL_mono l j
      refine ⟨by omega, fun h => ?_⟩
      have hjn : j = nl := by omega
      have hln := E1.out.1
      rw [hG2 h, hjn, <- hln, List.take_length]
     clear HT HL E1 hbr HG
     by_cases p1 : j < nl
     all_goals (try (have hgm : ¬ g <= most := fun h => hgo ⟨p1, h⟩))
     all_goals (try (have hdg : decide ((g : Int) <= (most : Int)) = false := decide_eq_false (by omega)))
     all_goals clear hgo
     all_goals go_wp2_with fail
     all_goals clear c3
     all_goals (
     go_loopw [5, 7] (fun a i wq => ∃ (g j : Nat), j <= nm /\ g <= most + 140737488355328 /\ Hid (g <= s.size + sizeL l + sizeM (m.take j) /\ (g <= most -> g = s.size + sizeL l + sizeM (m.take j))) /\ a = .int .i64 (g : Int) /\ i = .int .i64 j /\ Below wo.heap.size wo wq) (fun _ i _ => nm - (intOf i).toNat)
     case atStart => exact ⟨g, 0, Nat.zero_le _, hgb, ⟨by rw [List.take_zero, sizeM]; exact HG1.out.1, fun h => by rw [List.take_zero, sizeM]; exact HG1.out.2 h⟩, rfl, rfl, Below.refl _ _⟩
     case round =>
      clear hgb hg0
      try clear hgm
      try clear hdg
      obtain ⟨g, j, hj, hgb, HG, rfl, rfl, hbr⟩ := hrel
      have hg0 : (0 : Int) <= (g : Int) := Int.natCast_nonneg _
      have hbw2 : Below w.heap.size w wr := hbw.trans (hbr.mono (by omega))
      have c4 := bcs hbr (by omega) c4
      obtain ⟨w3, rfl⟩ : ∃ w3 : World, w3 = wr := ⟨_, rfl⟩
      by_cases hgo : j < nm /\ g <= most
      ·obtain ⟨hlt, hgm⟩ := hgo
       obtain ⟨tx, htx⟩ : ∃ x, m[j]? = some x := ⟨_, List.getElem?_eq_getElem (by have := E2.out; omega)⟩
       obtain ⟨x, hx⟩ : ∃ x, rms[j]? = some x := ⟨_, List.getElem?_eq_getElem (by have := E2.out; omega)⟩
       obtain ⟨b1, o1, rfl, hb1, hc1⟩ := rd_at' (HM.out.below hbw2 (Nat.le_refl _)) hx
       have f0 := hc1 0 _ rfl
       have f1 := hc1 1 _ rfl
       have f2 := hc1 2 _ rfl
       have f3 := hc1 3 _ rfl
       have f4 := hc1 4 _ rfl
       have f5 := hc1 5 _ rfl
       rw [Nat.add_zero] at f0
       have HC := Lib.hid (HS.out j tx x htx hx)
       have hk0 : (0 : Int) <= (j : Int) := Int.natCast_nonneg _
       have hk1 : (j : Int) < (nm : Int) := by omega
       have hgi : (g : Int) <= (most : Int) := by omega
       have hdg : decide ((g : Int) <= (most : Int)) = true := decide_eq_true hgi
       have HBR := Lib.hid hbr
       have hzq : wo.heap.size <= w3.heap.size := hbr.size
       have HTK := Lib.hid (sizeM_tk htx)
       clear hc1 htx hx hbr
       go_wp2_with (go_at_call 52; (with_reducible refine (HC.out _ hbw2 g _ ?num).mono ?_); (case num => (first | omega | (rw [IntKind.wrap_i64]; omega))); rintro e w1 ⟨c, rfl, ⟨hc1', hc2', hc3'⟩, hb1'⟩; (have hcc : (0 : Int) <= (c : Int) := Int.natCast_nonneg _))
       go_roundw
       case rel =>
        obtain ⟨hG1, hG2⟩ := HG.out
        exact ⟨g + c, j + 1, by omega, by omega, ⟨by rw [HTK.out]; omega, fun h => by rw [HTK.out, hG2 (by omega), hc3' (by omega)]; omega⟩, by go_num, by go_num, HBR.out.trans (hb1'.mono (by omega))⟩
       case measure => simp [intOf]; omega
      ·have HG2 : Hid (g <= R /\ (g <= most -> g = R)) := by
        obtain ⟨hG1, hG2⟩ := HG.out
        have := sizeM_mono m j
        unfold Hid
        rw [HFT.out]
        refine ⟨by omega, fun h => ?_⟩
        have hjn : j = nm := by omega
        have hln := E2.out.1
        rw [hG2 h, hjn, <- hln, List.take_length]
       by_cases p1 : j < nm
       all_goals (try (have hgm : ¬ g <= most := fun h => hgo ⟨p1, h⟩))
       all_goals (try (have hdg : decide ((g : Int) <= (most : Int)) = false := decide_eq_false (by omega)))
       all_goals clear hgo
       all_goals go_wp2_with fail
       all_goals go_ret
       all_goals exact ⟨g, rfl, ⟨hgb, HG2.out.1, HG2.out.2⟩, hbw2⟩)
end
section
open Go.RowKit Go.OpenShut
theorem few20_any (f v : JV) (r q : RV) (w : World) (hf : TreeOf w w.heap.size f r) (of : f.Ok) (hv : TreeOf w w.heap.size v q) (ov : v.Ok) :
 Calls Tryz.prog 21 #[r.val, q.val] w fun e w' => ∃ b : Bool, e = .returned (.bool b) /\ Hid (b = true -> (OwnN f /\ countT f <= 300) /\ OwnN v /\ countT v <= 800) /\ Below w.heap.size w w' := by
 obtain ⟨W0, hW0⟩ : ∃ W0, (w.alloc (.cells #[.int .i64 r.k, .int .i64 r.n, .string r.s, .slice r.pl r.nl r.cl, .slice r.pm r.nm r.cm] 25)).alloc (.cells #[.int .i64 q.k, .int .i64 q.n, .string q.s, .slice q.pl q.nl q.cl, .slice q.pm q.nm q.cm] 25) = W0 := ⟨_, rfl⟩
 have hA0 : VAt W0 w.heap.size r := by rw [<- hW0]; exact heap_alloc_lt (by simp) (heap_alloc_at rfl)
 have hC0 : VAt W0 (w.heap.size + 1) q := by rw [<- hW0]; exact heap_alloc_at (by simp)
 have hB0 : Below w.heap.size w W0 := by rw [<- hW0]; exact ((Below.refl _ _).alloc (Nat.le_refl _) _).alloc (by simp) _
 have HF : Hid (∀ W, Below w.heap.size w W -> Calls Tryz.prog 18 #[r.val, .int .i64 300] W (SomeN f r.nm 300 W)) := fun W hb => few7n_any f r 300 W (by decide) (hf.under hb hb.size) of
 have HV : Hid (∀ W, Below w.heap.size w W -> Calls Tryz.prog 18 #[q.val, .int .i64 800] W (SomeN v q.nm 800 W)) := fun W hb => few7n_any v q 800 W (by decide) (hv.under hb hb.size) ov
 clear hf hv
 go_enter Tryz.func21, Tryz.ntmps21
 go_upto_region 1 with fail
 try rw [hW0]
 clear hW0
 have hz := hA0.lt
 have hz2 := hC0.lt
 obtain ⟨c0, c1, c2, c3, c4⟩ := hA0.cells5
 obtain ⟨d0, d1, d2, d3, d4⟩ := hC0.cells5
 clear hA0 hC0
 go_wp2_with (first
  | (go_at_call 18; (with_reducible refine (HF.out _ hB0).mono ?_); rintro e w1 ⟨b1, rfl, hL, hbA⟩; (have hb1 := hB0.trans (hbA.mono hB0.size)); (have e0 := bcs hbA hz2 d0); (have e1 := bcs hbA hz2 d1); (have e2 := bcs hbA hz2 d2); (have e3 := bcs hbA hz2 d3); (have e4 := bcs hbA hz2 d4); cases b1)
  | (go_at_call 18; (with_reducible refine (HV.out _ hb1).mono ?_); rintro e w2 ⟨b2, rfl, hM, hbB⟩; (have hb2 := hb1.trans (hbB.mono hb1.size))))
 all_goals go_ret
 all_goals first
  | exact ⟨b2, rfl, fun h => ⟨(hL.out (by trivial)).2, (hM.out h).2⟩, hb2⟩
  | exact ⟨false, rfl, (fun h => by cases h), hb1⟩
theorem light20_any (t : JV) (r : RV) (most : Nat) (w : World) (hmost : most <= 1000000) (ht : TreeOf w w.heap.size t r) (ot : t.Ok) :
 Calls Tryz.prog 22 #[r.val, .int .i64 (most : Int)] w fun e w' => ∃ b : Bool, e = .returned (.bool b) /\ Hid (b = true -> sizeT t <= most) /\ Below w.heap.size w w' := by
 have hA0 : VAt (w.alloc (.cells #[.int .i64 r.k, .int .i64 r.n, .string r.s, .slice r.pl r.nl r.cl, .slice r.pm r.nm r.cm] 25)) w.heap.size r := heap_alloc_at rfl
 have hB0 : Below w.heap.size w (w.alloc (.cells #[.int .i64 r.k, .int .i64 r.n, .string r.s, .slice r.pl r.nl r.cl, .slice r.pm r.nm r.cm] 25)) := (Below.refl _ _).alloc (Nat.le_refl _) _
 have HS : Hid (∀ W, Below w.heap.size w W -> Calls Tryz.prog 52 #[r.val, .int .i64 (most : Int)] W fun e w' => ∃ c : Nat, e = .returned (.int .i64 (c : Int)) /\ (c <= most + 140737488355328 /\ c <= sizeT t /\ (c <= most -> c = sizeT t)) /\ Below W.heap.size W w') := fun W hb => size20_any _ t r most W (Nat.le_refl _) hmost (ht.under hb hb.size) ot
 clear ht
 go_enter Tryz.func22, Tryz.ntmps22
 go_upto_region 1 with fail
 obtain ⟨W0, hW0⟩ : ∃ W0, (w.alloc (.cells #[.int .i64 r.k, .int .i64 r.n, .string r.s, .slice r.pl r.nl r.cl, .slice r.pm r.nm r.cm] 25)) = W0 := ⟨_, rfl⟩
 rw [hW0] at hA0 hB0 ⊢
 clear hW0
 obtain ⟨c0, c1, c2, c3, c4⟩ := hA0.cells5
 clear hA0
 go_wp2_with (go_at_call 52; (with_reducible refine (HS.out _ hB0).mono ?_); rintro e w1 ⟨d, rfl, hdd, hbA⟩; (have hb1 := hB0.trans (hbA.mono hB0.size)))
 go_ret
 refine ⟨_, rfl, fun h => ?_, hb1⟩
 have h2 : (d : Int) <= (most : Int) := of_decide_eq_true (by simpa using h)
 have := hdd.2.2 (by omega)
 omega
end
section
open Go Go.RowKit Go.OpenShut
theorem tw_at {p : UInt8 -> Bool} {l : List UInt8} {j : Nat} (h : TwAt p l j) (hs : j = l.length \/ ∃ c, l[j]? = some c /\ p c = false) : l.takeWhile p = l.take j /\ l.dropWhile p = l.drop j := by
 rcases hs with rfl | ⟨c, h1, h2⟩
 ·obtain ⟨a, b⟩ := h.done
  exact ⟨by rw [a, List.take_length], by rw [b, List.drop_length]⟩
 ·exact h.stop h1 h2
theorem ext_to (s : ByteArray) (a j : Nat) : s.extract a j = toB ((s.data.toList.drop a).take (j - a)) := by
 apply ByteArray.ext
 apply Array.toList_inj.1
 rw [ext_list]
 simp [toB]
theorem drop_getS {s : ByteArray} {a j : Nat} (haj : a <= j) (h : j < s.size) : (s.data.toList.drop a)[j - a]? = some s[j] := by
 rw [List.getElem?_drop, Nat.add_sub_cancel' haj]
 exact get_optS h
theorem quote_step {l : List UInt8} {k j : Nat} (hd : l.drop k = 34 :: l.drop (k + 1)) (hj : k + 1 <= j) (h : TwAt notQ (l.drop (k + 1)) (j - (k + 1))) (hs : j - (k + 1) = (l.drop (k + 1)).length \/ ∃ c, (l.drop (k + 1))[j - (k + 1)]? = some c /\ notQ c = false) :
 termsF (l.drop k) = (if (l.drop (k + 1)).take (j - (k + 1)) = [] then [] else [(l.drop (k + 1)).take (j - (k + 1))]) ++ termsF (l.drop (j + 1)) := by
 obtain ⟨h1, h2⟩ := tw_at h hs
 rw [hd, termsF_q, h1, h2, List.drop_drop, List.drop_drop, show k + 1 + (j - (k + 1) + 1) = j + 1 by omega]
theorem plain_step {l : List UInt8} {k j : Nat} {c : UInt8} (g1 : c ≠ 32) (g2 : c ≠ 34) (hd : l.drop k = c :: l.drop (k + 1)) (hj : k <= j) (h : TwAt notE (l.drop k) (j - k)) (hs : j - k = (l.drop k).length \/ ∃ c, (l.drop k)[j - k]? = some c /\ notE c = false) :
 termsF (l.drop k) = [(l.drop k).take (j - k)] ++ termsF (l.drop j) := by
 obtain ⟨h1, h2⟩ := tw_at h hs
 have h3 := termsF_e g1 g2 (l.drop (k + 1))
 rw [<- hd, h1, h2, List.drop_drop, show k + (j - k) = j by omega] at h3
 exact h3
def TmR (w : World) (q : ByteArray) (k : Nat) (o : Value) (W : World) : Prop :=
 ∃ pre, pre ++ termsF (q.data.toList.drop k) = termsF q.data.toList /\ Own W w.heap.size 9 encS 1 o (pre.map toB) /\ Below w.heap.size w W
theorem rterms_any (w : World) (q : ByteArray) (hq : q.size <= 1000000) :
 Calls Tryz.prog 148 #[.string q] w fun e w' => ∃ v, e = .returned v /\ Own w' w.heap.size 9 encS 1 v ((termsF q.data.toList).map toB) /\ Below w.heap.size w w' := by
 have hlen : q.data.toList.length = q.size := by rw [Array.length_toList]; rfl
 have HGE : Hid (∀ k, (h : k < q.size) -> q.data.toList[k]? = some q[k]) := fun k h => get_optS h
 have HTL : Hid ((termsF q.data.toList).length <= 1000000) := by
  have := termsF_len q.data.toList
  unfold Hid
  omega
 have HLE := Lib.hid hlen
 have s0 : (0 : Int) <= (q.size : Int) := Int.natCast_nonneg _
 clear hlen
 go_enter Tryz.func148, Tryz.ntmps148
 go_wp2_with fail
 go_loopw [3, 4] (fun o i wr => ∃ k : Nat, k <= q.size + 1 /\ i = .int .i64 (k : Int) /\ Hid (TmR w q k o wr)) (fun _ i _ => q.size + 1 - (intOf i).toNat)
 case atStart => exact ⟨0, by omega, rfl, [], rfl, Own.nil _ _ _, Below.refl _ _⟩
 case round =>
  obtain ⟨k, hk, rfl, HR⟩ := hrel
  have hk0 : (0 : Int) <= (k : Int) := Int.natCast_nonneg _
  obtain ⟨pre, hpre, ho, hb⟩ := HR.out
  obtain ⟨p0, c0, rfl⟩ : ∃ p c, u3 = Value.slice p pre.length c := by
   obtain ⟨a, cap, h, _⟩ := ho.len
   rw [List.length_map] at h
   exact ⟨a, cap, h⟩
  by_cases hlt : k < q.size
  ·have hk1 : (k : Int) < (q.size : Int) := by omega
   have hg := HGE.out k hlt
   have hd : q.data.toList.drop k = q[k] :: q.data.toList.drop (k + 1) := by
    obtain ⟨h1, h2⟩ := List.getElem?_eq_some_iff.1 hg
    rw [List.drop_eq_getElem_cons h1, h2]
   obtain ⟨c, hc⟩ : ∃ c, q[k] = c := ⟨_, rfl⟩
   rw [hc] at hd hg
   have hcl := c.toNat_lt
   have HD := Lib.hid hd
   have HPRE := Lib.hid hpre
   have HO := Lib.hid ho
   have HB := Lib.hid hb
   have HPL : Hid (pre.length <= 1000000) := by
    have h1 := congrArg List.length hpre
    rw [List.length_append] at h1
    have h2 := HTL.out
    unfold Hid
    omega
   clear hd hg hpre ho hb HR
   by_cases h32 : c = 32
   ·have f32 : (((c.toNat : Nat) : Int) == 32) = true := by rw [h32]; rfl
    have HN : Hid (TmR w q (k + 1) (.slice p0 pre.length c0) wr) := ⟨pre, by rw [<- HPRE.out, HD.out, h32, termsF_sp], HO.out, HB.out⟩
    clear h32
    go_wp2_with fail
    go_roundw
    case rel => exact ⟨k + 1, by omega, by go_num, HN.out⟩
    case measure => simp [intOf]; omega
   ·have f32 : (((c.toNat : Nat) : Int) == 32) = false := by
     rw [beq_eq_false_iff_ne]
     intro h
     exact h32 (UInt8.toNat_inj.1 (show c.toNat = (32 : UInt8).toNat from by have : (32 : UInt8).toNat = 32 := rfl; omega))
    by_cases h34 : c = 34
    ·have f34 : (((c.toNat : Nat) : Int) == 34) = true := by rw [h34]; rfl
     obtain ⟨wo, rfl⟩ : ∃ wo : World, wo = wr := ⟨_, rfl⟩
     have HQS : Hid (∀ j, k + 1 <= j -> TwAt notQ (q.data.toList.drop (k + 1)) (j - (k + 1)) -> (j - (k + 1) = (q.data.toList.drop (k + 1)).length \/ ∃ c, (q.data.toList.drop (k + 1))[j - (k + 1)]? = some c /\ notQ c = false) -> termsF (q.data.toList.drop k) = (if (q.data.toList.drop (k + 1)).take (j - (k + 1)) = [] then [] else [(q.data.toList.drop (k + 1)).take (j - (k + 1))]) ++ termsF (q.data.toList.drop (j + 1))) := fun j h1 h2 h3 => quote_step (by rw [HD.out, h34]) h1 h2 h3
     clear h34 h32
     go_wp2_with fail
     go_loopw [4] (fun i wq => ∃ j : Nat, k + 1 <= j /\ j <= q.size /\ i = .int .i64 (j : Int) /\ Hid (TwAt notQ (q.data.toList.drop (k + 1)) (j - (k + 1))) /\ wo = wq) (fun i _ => q.size - (intOf i).toNat)
     case atStart => exact ⟨k + 1, Nat.le_refl _, by omega, by go_num, by unfold Hid; rw [Nat.sub_self]; exact TwAt.zero _ _, rfl⟩
     case round =>
      obtain ⟨j, hj1, hj2, rfl, HT, rfl⟩ := hrel
      have hj0 : (0 : Int) <= (j : Int) := Int.natCast_nonneg _
      have EXIT : Hid ((j = q.size \/ ∃ h : j < q.size, notQ q[j] = false) -> ∃ X, (q.data.toList.drop (k + 1)).take (j - (k + 1)) = X /\ q.extract (k + 1) j = toB X /\ (X = [] ↔ j = k + 1) /\ pre ++ ((if X = [] then [] else [X]) ++ termsF (q.data.toList.drop (j + 1))) = termsF q.data.toList) := by
       intro h
       refine ⟨_, rfl, ext_to _ _ _, ?_, ?_⟩
       ·rw [<- List.length_eq_zero_iff, List.length_take, List.length_drop, HLE.out]
        omega
       ·rw [<- HPRE.out]
        congr 1
        refine (HQS.out j hj1 HT.out ?_).symm
        rcases h with rfl | ⟨h1, h2⟩
        ·left
         rw [List.length_drop, HLE.out]
        ·exact .inr ⟨q[j], drop_getS hj1 h1, h2⟩
      have HO2 := HO
      by_cases hgo : ∃ h : j < q.size, notQ q[j] = true
      ·obtain ⟨hjl, hnq⟩ := hgo
       have i1 : (j : Int) < (q.size : Int) := by omega
       have HT2 := Lib.hid (HT.out.next (drop_getS hj1 hjl) hnq)
       have b34 : (((q[j].toNat : Nat) : Int) != 34) = true := by
        have h1 : ¬ q[j] = 34 := by simpa [notQ] using hnq
        rw [bne_iff_ne]
        intro h
        exact h1 (UInt8.toNat_inj.1 (show q[j].toNat = (34 : UInt8).toNat from by have : (34 : UInt8).toNat = 34 := rfl; omega))
       have b34' : (((q[j].toNat : Nat) : Int) == 34) = false := by rw [<- Bool.not_eq_true']; exact b34
       clear hnq EXIT
       go_wp2_with fail
       go_roundw
       case rel => exact ⟨j + 1, by omega, by omega, by go_num, by unfold Hid; rw [show j + 1 - (k + 1) = j - (k + 1) + 1 by omega]; exact HT2.out, by trivial⟩
       case measure => simp [intOf]; omega
      ·have hex : j = q.size \/ ∃ h : j < q.size, notQ q[j] = false := by
        by_cases hjl : j < q.size
        ·right
         refine ⟨hjl, ?_⟩
         cases hn : notQ q[j] with
         | false => rfl
         | true => exact absurd ⟨hjl, hn⟩ hgo
        ·left
         omega
       obtain ⟨X, hX, hXE, hXN, hXT⟩ := EXIT.out hex
       have HXE := Lib.hid hXE
       have HXN := Lib.hid hXN
       have HXT := Lib.hid hXT
       clear hX hXE hXN hXT EXIT hgo HO2
       cases X with
       | nil =>
         have HJK : Hid (j = k + 1) := HXN.out.1 rfl
         have HN : Hid (TmR w q (j + 1) (.slice p0 pre.length c0) wo) := ⟨pre, HXT.out, HO.out, HB.out⟩
         have hgt : ¬ ((k : Int) + 1 < (j : Int)) := by have := HJK.out; omega
         have hgt2 : decide ((k : Int) + 1 < (j : Int)) = false := decide_eq_false hgt
         rcases hex with he | ⟨hjl, hnq⟩
         ·have i1 : ¬ (j : Int) < (q.size : Int) := by omega
          clear he
          go_wp2_with fail
          go_roundw
          case rel => exact ⟨j + 1, by omega, by go_num, HN.out⟩
          case measure => simp [intOf]; omega
         ·have i1 : (j : Int) < (q.size : Int) := by omega
          have h1 : q[j] = 34 := by simpa [notQ] using hnq
          have b34 : (((q[j].toNat : Nat) : Int) != 34) = false := by rw [h1]; rfl
          have b34' : (((q[j].toNat : Nat) : Int) == 34) = true := by rw [h1]; rfl
          clear h1 hnq
          go_wp2_with fail
          go_roundw
          case rel => exact ⟨j + 1, by omega, by go_num, HN.out⟩
          case measure => simp [intOf]; omega
       | cons x0 X0 =>
         have HJK : Hid (k + 1 < j) := by
          have : ¬ j = k + 1 := fun h => by have := HXN.out.2 h; cases this
          unfold Hid
          omega
         have hgt : ((k : Int) + 1 < (j : Int)) := by have := HJK.out; omega
         have hgt2 : decide ((k : Int) + 1 < (j : Int)) = true := decide_eq_true hgt
         have HRB : Hid (Rd (wo.alloc (.cells #[.string (toB (x0 :: X0))] 9)) (wo.heap.size + 1) encS 1 (.slice (some ⟨wo.heap.size, 0, none⟩) 1 1) [toB (x0 :: X0)]) := Rd.block (xs := [toB (x0 :: X0)]) codecS (heap_alloc_at rfl) rfl (Nat.lt_succ_self _) (show 1 <= maxLen by decide)
         have HOA : Hid (Own (wo.alloc (.cells #[.string (toB (x0 :: X0))] 9)) w.heap.size 9 encS 1 (.slice p0 pre.length c0) (pre.map toB)) := HO.out.alloc _
         have HBS : Hid (w.heap.size <= (wo.alloc (.cells #[.string (toB (x0 :: X0))] 9)).heap.size) := by
          have := HB.out.size
          unfold Hid
          rw [World.size_alloc]
          omega
         have hxe := HXE.out
         rcases hex with he | ⟨hjl, hnq⟩
         ·have i1 : ¬ (j : Int) < (q.size : Int) := by omega
          clear he
          go_wp2_with (at_builtin; refine wpList_append_rd slS codecS _ rfl _ _ rfl rfl rfl HOA.out HRB.out (by have := HPL.out; simp only [List.length_singleton, List.length_map]; unfold maxLen; omega) (by have := HPL.out; simp only [List.length_singleton, List.length_map]; omega) HBS.out ?_; intro v1 w1 ho1 hg1 hat1; (obtain ⟨p1, cc1, rfl⟩ : ∃ p c, v1 = Value.slice p (pre.length + 1) c := (by obtain ⟨a, cap, h, _⟩ := ho1.len; rw [List.length_append, List.length_map] at h; exact ⟨a, cap, h⟩)); (have HO1 := Lib.hid ho1); (have HB1 := Lib.hid (Below.appended (HB.out.alloc HB.out.size _) hg1 HOA.out HBS.out)); clear ho1 hg1 hat1)
          have HN : Hid (TmR w q (j + 1) (.slice p1 (pre.length + 1) cc1) w1) := ⟨pre ++ [x0 :: X0], by rw [List.append_assoc]; exact HXT.out, by rw [List.map_append]; exact HO1.out, HB1.out⟩
          go_roundw
          case rel => exact ⟨j + 1, by omega, by go_num, HN.out⟩
          case measure => simp [intOf]; omega
         ·have i1 : (j : Int) < (q.size : Int) := by omega
          have h1 : q[j] = 34 := by simpa [notQ] using hnq
          have b34 : (((q[j].toNat : Nat) : Int) != 34) = false := by rw [h1]; rfl
          have b34' : (((q[j].toNat : Nat) : Int) == 34) = true := by rw [h1]; rfl
          clear h1 hnq
          go_wp2_with (at_builtin; refine wpList_append_rd slS codecS _ rfl _ _ rfl rfl rfl HOA.out HRB.out (by have := HPL.out; simp only [List.length_singleton, List.length_map]; unfold maxLen; omega) (by have := HPL.out; simp only [List.length_singleton, List.length_map]; omega) HBS.out ?_; intro v1 w1 ho1 hg1 hat1; (obtain ⟨p1, cc1, rfl⟩ : ∃ p c, v1 = Value.slice p (pre.length + 1) c := (by obtain ⟨a, cap, h, _⟩ := ho1.len; rw [List.length_append, List.length_map] at h; exact ⟨a, cap, h⟩)); (have HO1 := Lib.hid ho1); (have HB1 := Lib.hid (Below.appended (HB.out.alloc HB.out.size _) hg1 HOA.out HBS.out)); clear ho1 hg1 hat1)
          have HN : Hid (TmR w q (j + 1) (.slice p1 (pre.length + 1) cc1) w1) := ⟨pre ++ [x0 :: X0], by rw [List.append_assoc]; exact HXT.out, by rw [List.map_append]; exact HO1.out, HB1.out⟩
          go_roundw
          case rel => exact ⟨j + 1, by omega, by go_num, HN.out⟩
          case measure => simp [intOf]; omega
    ·have f34 : (((c.toNat : Nat) : Int) == 34) = false := by
      rw [beq_eq_false_iff_ne]
      intro h
      exact h34 (UInt8.toNat_inj.1 (show c.toNat = (34 : UInt8).toNat from by have : (34 : UInt8).toNat = 34 := rfl; omega))
     obtain ⟨wo, rfl⟩ : ∃ wo : World, wo = wr := ⟨_, rfl⟩
     have HQS : Hid (∀ j, k <= j -> TwAt notE (q.data.toList.drop k) (j - k) -> (j - k = (q.data.toList.drop k).length \/ ∃ c, (q.data.toList.drop k)[j - k]? = some c /\ notE c = false) -> termsF (q.data.toList.drop k) = [(q.data.toList.drop k).take (j - k)] ++ termsF (q.data.toList.drop j)) := fun j h1 h2 h3 => plain_step h32 h34 HD.out h1 h2 h3
     have HK0 : Hid (notE q[k] = true) := by unfold Hid; rw [hc]; exact notE_yes h32 h34
     have HHC := Lib.hid hc
     clear h34 h32
     go_wp2_with fail
     go_loopw [4] (fun i wq => ∃ j : Nat, k <= j /\ j <= q.size /\ i = .int .i64 (j : Int) /\ Hid (TwAt notE (q.data.toList.drop k) (j - k)) /\ wo = wq) (fun i _ => q.size - (intOf i).toNat)
     case atStart => exact ⟨k, Nat.le_refl _, by omega, rfl, by unfold Hid; rw [Nat.sub_self]; exact TwAt.zero _ _, rfl⟩
     case round =>
      obtain ⟨j, hj1, hj2, rfl, HT, rfl⟩ := hrel
      have hj0 : (0 : Int) <= (j : Int) := Int.natCast_nonneg _
      have EXIT : Hid ((j = q.size \/ ∃ h : j < q.size, notE q[j] = false) -> ∃ X, q.extract k j = toB X /\ k < j /\ pre ++ ([X] ++ termsF (q.data.toList.drop j)) = termsF q.data.toList) := by
       intro h
       refine ⟨_, ext_to _ _ _, ?_, ?_⟩
       ·rcases h with rfl | ⟨h1, h2⟩
        ·exact hlt
        ·by_cases e : k = j
         ·subst e
          rw [HK0.out] at h2
          cases h2
         ·omega
       ·rw [<- HPRE.out]
        congr 1
        refine (HQS.out j hj1 HT.out ?_).symm
        rcases h with rfl | ⟨h1, h2⟩
        ·left
         rw [List.length_drop, HLE.out]
        ·exact .inr ⟨q[j], drop_getS hj1 h1, h2⟩
      by_cases hgo : ∃ h : j < q.size, notE q[j] = true
      ·obtain ⟨hjl, hnq⟩ := hgo
       have i1 : (j : Int) < (q.size : Int) := by omega
       have HT2 := Lib.hid (HT.out.next (drop_getS hj1 hjl) hnq)
       have hne : ¬ q[j] = 32 /\ ¬ q[j] = 34 := by simpa [notE] using hnq
       have b32 : (((q[j].toNat : Nat) : Int) != 32) = true := by
        rw [bne_iff_ne]
        intro h
        exact hne.1 (UInt8.toNat_inj.1 (show q[j].toNat = (32 : UInt8).toNat from by have : (32 : UInt8).toNat = 32 := rfl; omega))
       have b34 : (((q[j].toNat : Nat) : Int) != 34) = true := by
        rw [bne_iff_ne]
        intro h
        exact hne.2 (UInt8.toNat_inj.1 (show q[j].toNat = (34 : UInt8).toNat from by have : (34 : UInt8).toNat = 34 := rfl; omega))
       have b32' : (((q[j].toNat : Nat) : Int) == 32) = false := by rw [<- Bool.not_eq_true']; exact b32
       have b34' : (((q[j].toNat : Nat) : Int) == 34) = false := by rw [<- Bool.not_eq_true']; exact b34
       clear hnq EXIT hne
       go_wp2_with fail
       go_roundw
       case rel => exact ⟨j + 1, by omega, by omega, by go_num, by unfold Hid; rw [show j + 1 - k = j - k + 1 by omega]; exact HT2.out, by trivial⟩
       case measure => simp [intOf]; omega
      ·have hex : j = q.size \/ ∃ h : j < q.size, notE q[j] = false := by
        by_cases hjl : j < q.size
        ·right
         refine ⟨hjl, ?_⟩
         cases hn : notE q[j] with
         | false => rfl
         | true => exact absurd ⟨hjl, hn⟩ hgo
        ·left
         omega
       obtain ⟨X, hxe, hjk, hXT⟩ := EXIT.out hex
       have HXT := Lib.hid hXT
       have HRB : Hid (Rd (wo.alloc (.cells #[.string (toB X)] 9)) (wo.heap.size + 1) encS 1 (.slice (some ⟨wo.heap.size, 0, none⟩) 1 1) [toB X]) := Rd.block (xs := [toB X]) codecS (heap_alloc_at rfl) rfl (Nat.lt_succ_self _) (show 1 <= maxLen by decide)
       have HOA : Hid (Own (wo.alloc (.cells #[.string (toB X)] 9)) w.heap.size 9 encS 1 (.slice p0 pre.length c0) (pre.map toB)) := HO.out.alloc _
       have HBS : Hid (w.heap.size <= (wo.alloc (.cells #[.string (toB X)] 9)).heap.size) := by
        have := HB.out.size
        unfold Hid
        rw [World.size_alloc]
        omega
       clear hXT EXIT hgo
       have hcase : j = q.size \/ (j < q.size /\ ((∃ h : j < q.size, q[j] = 32) \/ (∃ h : j < q.size, ¬ q[j] = 32 /\ q[j] = 34))) := by
        rcases hex with h | ⟨h1, h2⟩
        ·exact .inl h
        ·refine .inr ⟨h1, ?_⟩
         by_cases e : q[j] = 32
         ·exact .inl ⟨h1, e⟩
         ·refine .inr ⟨h1, e, ?_⟩
          simpa [notE, e] using h2
       clear hex
       rcases hcase with he | ⟨hjl, ⟨_, e32⟩ | ⟨_, n32, e34⟩⟩
       ·have i1 : ¬ (j : Int) < (q.size : Int) := by omega
        clear he
        go_wp2_with (at_builtin; refine wpList_append_rd slS codecS _ rfl _ _ rfl rfl rfl HOA.out HRB.out (by have := HPL.out; simp only [List.length_singleton, List.length_map]; unfold maxLen; omega) (by have := HPL.out; simp only [List.length_singleton, List.length_map]; omega) HBS.out ?_; intro v1 w1 ho1 hg1 hat1; (obtain ⟨p1, cc1, rfl⟩ : ∃ p c, v1 = Value.slice p (pre.length + 1) c := (by obtain ⟨a, cap, h, _⟩ := ho1.len; rw [List.length_append, List.length_map] at h; exact ⟨a, cap, h⟩)); (have HO1 := Lib.hid ho1); (have HB1 := Lib.hid (Below.appended (HB.out.alloc HB.out.size _) hg1 HOA.out HBS.out)); clear ho1 hg1 hat1)
        have HN : Hid (TmR w q j (.slice p1 (pre.length + 1) cc1) w1) := ⟨pre ++ [X], by rw [List.append_assoc]; exact HXT.out, by rw [List.map_append]; exact HO1.out, HB1.out⟩
        go_roundw
        case rel => exact ⟨j, by omega, by go_num, HN.out⟩
        case measure => simp [intOf]; omega
       ·have i1 : (j : Int) < (q.size : Int) := by omega
        have b32 : (((q[j].toNat : Nat) : Int) != 32) = false := by rw [e32]; rfl
        have b32' : (((q[j].toNat : Nat) : Int) == 32) = true := by rw [e32]; rfl
        clear e32
        go_wp2_with (at_builtin; refine wpList_append_rd slS codecS _ rfl _ _ rfl rfl rfl HOA.out HRB.out (by have := HPL.out; simp only [List.length_singleton, List.length_map]; unfold maxLen; omega) (by have := HPL.out; simp only [List.length_singleton, List.length_map]; omega) HBS.out ?_; intro v1 w1 ho1 hg1 hat1; (obtain ⟨p1, cc1, rfl⟩ : ∃ p c, v1 = Value.slice p (pre.length + 1) c := (by obtain ⟨a, cap, h, _⟩ := ho1.len; rw [List.length_append, List.length_map] at h; exact ⟨a, cap, h⟩)); (have HO1 := Lib.hid ho1); (have HB1 := Lib.hid (Below.appended (HB.out.alloc HB.out.size _) hg1 HOA.out HBS.out)); clear ho1 hg1 hat1)
        have HN : Hid (TmR w q j (.slice p1 (pre.length + 1) cc1) w1) := ⟨pre ++ [X], by rw [List.append_assoc]; exact HXT.out, by rw [List.map_append]; exact HO1.out, HB1.out⟩
        go_roundw
        case rel => exact ⟨j, by omega, by go_num, HN.out⟩
        case measure => simp [intOf]; omega
       ·have i1 : (j : Int) < (q.size : Int) := by omega
        have b32 : (((q[j].toNat : Nat) : Int) != 32) = true := by rw [e34]; rfl
        have b32' : (((q[j].toNat : Nat) : Int) == 32) = false := by rw [e34]; rfl
        have b34 : (((q[j].toNat : Nat) : Int) != 34) = false := by rw [e34]; rfl
        have b34' : (((q[j].toNat : Nat) : Int) == 34) = true := by rw [e34]; rfl
        clear e34 n32
        go_wp2_with (at_builtin; refine wpList_append_rd slS codecS _ rfl _ _ rfl rfl rfl HOA.out HRB.out (by have := HPL.out; simp only [List.length_singleton, List.length_map]; unfold maxLen; omega) (by have := HPL.out; simp only [List.length_singleton, List.length_map]; omega) HBS.out ?_; intro v1 w1 ho1 hg1 hat1; (obtain ⟨p1, cc1, rfl⟩ : ∃ p c, v1 = Value.slice p (pre.length + 1) c := (by obtain ⟨a, cap, h, _⟩ := ho1.len; rw [List.length_append, List.length_map] at h; exact ⟨a, cap, h⟩)); (have HO1 := Lib.hid ho1); (have HB1 := Lib.hid (Below.appended (HB.out.alloc HB.out.size _) hg1 HOA.out HBS.out)); clear ho1 hg1 hat1)
        have HN : Hid (TmR w q j (.slice p1 (pre.length + 1) cc1) w1) := ⟨pre ++ [X], by rw [List.append_assoc]; exact HXT.out, by rw [List.map_append]; exact HO1.out, HB1.out⟩
        go_roundw
        case rel => exact ⟨j, by omega, by go_num, HN.out⟩
        case measure => simp [intOf]; omega
  ·have HE : Hid (pre = termsF q.data.toList) := by
    have h1 := hpre
    rw [List.drop_eq_nil_of_le (by have := HLE.out; omega), termsF_nil, List.append_nil] at h1
    exact h1
   have HO := Lib.hid ho
   have HB := Lib.hid hb
   clear hpre ho hb HR
   go_wp2_with fail
   go_ret
   exact ⟨_, rfl, by rw [<- HE.out]; exact HO.out, HB.out⟩
theorem rin_any (a b : ByteArray) (w : World) (ha : a.size <= 1000000000000) (hb : b.size <= 1000000000000) : Calls Tryz.prog 150 #[.string a, .string b] w fun e w' => e = .returned (.bool (Go.Lib.contains a.data.toList b.data.toList)) /\ w = w' := by
 have hla : a.data.toList.length = a.size := by rw [Array.length_toList]; rfl
 have hlb : b.data.toList.length = b.size := by rw [Array.length_toList]; rfl
 have HYES : Hid (∀ k, k + b.size <= a.size -> (a.data.toList.drop k).take b.size = b.data.toList -> Go.Lib.contains a.data.toList b.data.toList = true) := fun k h1 h2 => (contains_iff _ _).2 ⟨k, by omega, by rw [hlb]; exact h2⟩
 have HNO : Hid ((∀ k, k + b.size <= a.size -> (a.data.toList.drop k).take b.size ≠ b.data.toList) -> Go.Lib.contains a.data.toList b.data.toList = false) := fun h => contains_no (fun i h1 h2 => h i (by omega) (by rw [<- hlb]; exact h2))
 have HEX : Hid (∀ k, k + b.size <= a.size -> ((a.extract k (k + b.size)).toList == b.toList) = decide ((a.data.toList.drop k).take b.size = b.data.toList)) := fun k h => by
  rw [ByteArray.toList_eq, ByteArray.toList_eq, ext_list, Nat.add_sub_cancel_left, Bool.eq_iff_iff, beq_iff_eq, decide_eq_true_iff]
 obtain ⟨R, hR⟩ : ∃ R, Go.Lib.contains a.data.toList b.data.toList = R := ⟨_, rfl⟩
 rw [hR] at HYES HNO ⊢
 have a0 : (0 : Int) <= (a.size : Int) := Int.natCast_nonneg _
 have b0 : (0 : Int) <= (b.size : Int) := Int.natCast_nonneg _
 clear hR hla hlb
 go_enter Tryz.func150, Tryz.ntmps150
 go_wp2_with fail
 go_loopw [5] (fun i wr => ∃ k : Nat, k <= a.size + 1 /\ i = .int .i64 (k : Int) /\ Hid (∀ j, j < k -> j + b.size <= a.size -> (a.data.toList.drop j).take b.size ≠ b.data.toList) /\ w = wr) (fun i _ => a.size + 1 - (intOf i).toNat)
 case atStart => exact ⟨0, by omega, rfl, fun j h => by omega, rfl⟩
 case round =>
  obtain ⟨k, hk, rfl, HT, rfl⟩ := hrel
  have hk0 : (0 : Int) <= (k : Int) := Int.natCast_nonneg _
  by_cases hlt : k + b.size <= a.size
  ·have q1 : (b.size : Int) <= (a.size : Int) - (k : Int) := by omega
   have q2 : decide ((b.size : Int) <= (a.size : Int) - (k : Int)) = true := decide_eq_true q1
   have hq := HEX.out k hlt
   have hki : (k : Int) + (b.size : Int) <= (a.size : Int) := by omega
   by_cases hm : (a.data.toList.drop k).take b.size = b.data.toList
   ·have HR := Lib.hid (HYES.out k hlt hm)
    rw [decide_eq_true hm] at hq
    clear hm
    go_wp2_with fail
    go_ret
    exact ⟨ret_boolI HR.out.symm, rfl⟩
   ·rw [decide_eq_false hm] at hq
    have HM := Lib.hid hm
    clear hm
    go_wp2_with fail
    go_roundw
    case rel =>
     refine ⟨k + 1, by omega, by go_num, fun j h1 h2 => ?_, by trivial⟩
     by_cases e : j = k
     ·subst e
      exact HM.out
     ·exact HT.out j (by omega) h2
    case measure => simp [intOf]; omega
  ·have q1 : ¬ (b.size : Int) <= (a.size : Int) - (k : Int) := by omega
   have q2 : decide ((b.size : Int) <= (a.size : Int) - (k : Int)) = false := decide_eq_false q1
   have HR := Lib.hid (HNO.out (fun j h => HT.out j (by omega) h))
   go_wp2_with fail
   go_ret
   exact ⟨ret_boolI HR.out.symm, rfl⟩
theorem rfold_any (s : ByteArray) (w : World) (hs : s.size <= 140737488351232) : Calls Tryz.prog 149 #[.string s] w fun e w' => e = .returned (.string (toB (foldL s.data.toList))) /\ Below w.heap.size w w' := by
 have hsz : s.data.toList.length = s.size := by rw [Array.length_toList]; rfl
 have HGE : Hid (∀ k, (h : k < s.size) -> s.data.toList[k]? = some s[k]) := fun k h => get_optS h
 have HSZ := Lib.hid hsz
 have s0 : (0 : Int) <= (s.size : Int) := Int.natCast_nonneg _
 clear hsz
 go_enter Tryz.func149, Tryz.ntmps149
 go_wp2_with fail
 go_loopw [3, 4] (fun u i wr => ∃ k : Nat, k <= s.size /\ i = .int .i64 (k : Int) /\ Hid (Own wr w.heap.size 5 encU 1 u (foldL (s.data.toList.take k)) /\ Below w.heap.size w wr)) (fun _ i _ => s.size - (intOf i).toNat)
 case atStart => exact ⟨0, by omega, rfl, Own.nil _ _ _, Below.refl _ _⟩
 case round =>
  obtain ⟨k, hk, rfl, hH⟩ := hrel
  have HO := Lib.hid hH.out.1
  have HB := Lib.hid hH.out.2
  clear hH
  have hk0 : (0 : Int) <= (k : Int) := Int.natCast_nonneg _
  by_cases hlt : k < s.size
  ·have hks : (k : Int) < (s.size : Int) := by omega
   have hbz := HB.out.size
   have hg := HGE.out k hlt
   obtain ⟨c, hc⟩ : ∃ c, s[k] = c := ⟨_, rfl⟩
   rw [hc] at hg
   have hcl := c.toNat_lt
   have HTK : Hid (foldL (s.data.toList.take (k + 1)) = foldL (s.data.toList.take k) ++ [foldC c]) := by
    unfold Hid foldL
    rw [List.take_add_one, hg, Option.toList_some, List.map_append]
    rfl
   have HF : Hid ((foldC c).toNat = if 65 <= c.toNat /\ c.toNat <= 90 then c.toNat + 32 else c.toNat) := by
    unfold Hid foldC
    have h1 : (65 <= c /\ c <= 90) ↔ (65 <= c.toNat /\ c.toNat <= 90) := by rw [UInt8.le_iff_toNat_le, UInt8.le_iff_toNat_le]; rfl
    by_cases h : 65 <= c.toNat /\ c.toNat <= 90
    ·rw [if_pos (h1.2 h), if_pos h, UInt8.toNat_add]
     show (c.toNat + 32) % 256 = _
     omega
    ·rw [if_neg (fun e => h (h1.1 e)), if_neg h]
   have hLl : (foldL (s.data.toList.take k)).length <= k := by unfold foldL; rw [List.length_map]; exact List.length_take_le _ _
   have HLN : Hid ((foldL (s.data.toList.take k)).length + [foldC c].length <= maxLen /\ ((foldL (s.data.toList.take k)).length + [foldC c].length) * 1 <= 140737488355328) := by
    simp only [List.length_singleton]
    exact ⟨by unfold maxLen; omega, by omega⟩
   have n0 : (0 : Int) <= ((c.toNat : Nat) : Int) := Int.natCast_nonneg _
   have n256 : ((c.toNat : Nat) : Int) < 256 := by omega
   clear hg hLl
   by_cases h1 : 65 <= c.toNat
   ·have q1 : decide ((65 : Int) <= ((c.toNat : Nat) : Int)) = true := decide_eq_true (by omega)
    by_cases h2 : c.toNat <= 90
    ·have q2 : decide (((c.toNat : Nat) : Int) <= 90) = true := decide_eq_true (by omega)
     have h2' : ((c.toNat : Nat) : Int) <= 90 := by omega
     have HRR : Hid ((foldC c).toNat = c.toNat + 32) := by unfold Hid; rw [HF.out, if_pos ⟨h1, h2⟩]
     have HR1 : Hid (Rd (wr.alloc (.cells #[.int .u8 (((c.toNat : Nat) : Int) + 32)] 5)) (wr.heap.size + 1) encU 1 (.slice (some ⟨wr.heap.size, 0, none⟩) 1 1) [foldC c]) := Rd.one codecU (heap_alloc_at rfl) (by unfold encU; rw [HRR.out]; simp) (by omega)
     have HO2 := Lib.hid (HO.out.alloc (.cells #[.int .u8 (((c.toNat : Nat) : Int) + 32)] 5))
     go_wp2_with (at_builtin; refine wpList_append_rd slU codecU (wr.alloc (.cells #[.int .u8 (((c.toNat : Nat) : Int) + 32)] 5)) rfl (.tmp 23) (.tmp 25) rfl (v := u3) rfl rfl HO2.out HR1.out HLN.out.1 HLN.out.2 (by simp; omega) ?_; intro v8 w8 ho8 hg8 hat8)
     go_roundw
     case rel =>
      refine ⟨k + 1, by omega, by go_num, ?_, Below.appended (HB.out.alloc hbz _) hg8 HO2.out (by simp; omega)⟩
      rw [HTK.out]
      exact ho8
     case measure => simp [intOf]; omega
    ·have q2 : decide (((c.toNat : Nat) : Int) <= 90) = false := decide_eq_false (by omega)
     have HRR : Hid ((foldC c).toNat = c.toNat) := by unfold Hid; rw [HF.out, if_neg (fun e => h2 e.2)]
     have HR1 : Hid (Rd (wr.alloc (.cells #[.int .u8 ((c.toNat : Nat) : Int)] 5)) (wr.heap.size + 1) encU 1 (.slice (some ⟨wr.heap.size, 0, none⟩) 1 1) [foldC c]) := Rd.one codecU (heap_alloc_at rfl) (by unfold encU; rw [HRR.out]) (by omega)
     have HO2 := Lib.hid (HO.out.alloc (.cells #[.int .u8 ((c.toNat : Nat) : Int)] 5))
     go_wp2_with (at_builtin; refine wpList_append_rd slU codecU (wr.alloc (.cells #[.int .u8 ((c.toNat : Nat) : Int)] 5)) rfl (.tmp 23) (.tmp 25) rfl (v := u3) rfl rfl HO2.out HR1.out HLN.out.1 HLN.out.2 (by simp; omega) ?_; intro v8 w8 ho8 hg8 hat8)
     go_roundw
     case rel =>
      refine ⟨k + 1, by omega, by go_num, ?_, Below.appended (HB.out.alloc hbz _) hg8 HO2.out (by simp; omega)⟩
      rw [HTK.out]
      exact ho8
     case measure => simp [intOf]; omega
   ·have q1 : decide ((65 : Int) <= ((c.toNat : Nat) : Int)) = false := decide_eq_false (by omega)
    have HRR : Hid ((foldC c).toNat = c.toNat) := by unfold Hid; rw [HF.out, if_neg (fun e => h1 e.1)]
    have HR1 : Hid (Rd (wr.alloc (.cells #[.int .u8 ((c.toNat : Nat) : Int)] 5)) (wr.heap.size + 1) encU 1 (.slice (some ⟨wr.heap.size, 0, none⟩) 1 1) [foldC c]) := Rd.one codecU (heap_alloc_at rfl) (by unfold encU; rw [HRR.out]) (by omega)
    have HO2 := Lib.hid (HO.out.alloc (.cells #[.int .u8 ((c.toNat : Nat) : Int)] 5))
    go_wp2_with (at_builtin; refine wpList_append_rd slU codecU (wr.alloc (.cells #[.int .u8 ((c.toNat : Nat) : Int)] 5)) rfl (.tmp 23) (.tmp 25) rfl (v := u3) rfl rfl HO2.out HR1.out HLN.out.1 HLN.out.2 (by simp; omega) ?_; intro v8 w8 ho8 hg8 hat8)
    go_roundw
    case rel =>
     refine ⟨k + 1, by omega, by go_num, ?_, Below.appended (HB.out.alloc hbz _) hg8 HO2.out (by simp; omega)⟩
     rw [HTK.out]
     exact ho8
    case measure => simp [intOf]; omega
  ·obtain rfl : k = s.size := by omega
   have hta : s.data.toList.take s.size = s.data.toList := by rw [<- HSZ.out, List.take_length]
   have ho := HO.out
   rw [hta] at ho
   have hback := str_of_own ho
   clear ho
   go_wp2_with fail
   go_ret
   exact ⟨rfl, HB.out⟩
end
end Go.Proofs.YtffhccmppdgmfaaGreatDoor
