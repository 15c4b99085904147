import Derived.Test.YtjhginendpjimaaGreatDoorB31
import Derived.Test.YtjhginendpjimaaGreatDoorB19
import Derived.Test.YtjhginendpjimaaGreatDoorB01
import Derived.Test.YtjhginendpjimaaGreatDoorB11
import Derived.Test.YtjhginendpjimaaGreatDoorB16
import Derived.BigQuiet
import Derived.Deep.RegionHeld3
set_option linter.unusedSimpArgs false
set_option linter.unusedVariables false
set_option maxRecDepth 200000
set_option maxHeartbeats 8000000
namespace Go.Proofs.YtjhginendpjimaaGreatDoor
section
open Go.RowKit Go.OpenShut
def SomeF (n : Nat) (w : World) (e : Ending) (w' : World) : Prop := ∃ b : Bool, e = .returned (.bool b) /\ Hid (b = true -> n <= 10000) /\ Below w.heap.size w w'
theorem deep7_any (t : JV) (r : RV) (w : World) (ht : TreeOf w w.heap.size t r) (ot : t.Ok) :
 Calls Tryz.prog 29 #[r.val, .int .i64 100] w (SomeF r.nm w) := by
 obtain ⟨rs, rms, hl, el, hT, bl, hm, em, hTM, bm⟩ := ht.opened ot
 obtain ⟨k, n, s, pl, nl, cl, pm, nm, cm⟩ := r
 dsimp only [RV.val] at *
 have hA0 : VAt (w.alloc (.cells #[.int .i64 k, .int .i64 n, .string s, .slice pl nl cl, .slice pm nm cm] 25)) w.heap.size ⟨k, n, s, pl, nl, cl, pm, nm, cm⟩ := heap_alloc_at rfl
 have hB0 : Below w.heap.size w (w.alloc (.cells #[.int .i64 k, .int .i64 n, .string s, .slice pl nl cl, .slice pm nm cm] 25)) := (Below.refl _ _).alloc (Nat.le_refl _) _
 have HT := Lib.hid ht
 clear hl hT hm hTM el em ht
 go_enter Tryz.func29, Tryz.ntmps29
 go_upto_region 1 with fail
 obtain ⟨W0, hW0⟩ : ∃ W0, (w.alloc (.cells #[.int .i64 k, .int .i64 n, .string s, .slice pl nl cl, .slice pm nm cm] 25)) = W0 := ⟨_, rfl⟩
 rw [hW0] at hA0 hB0 ⊢
 clear hW0
 have hz := hA0.lt
 obtain ⟨c0, c1, c2, c3, c4⟩ := hA0.cells5
 dsimp only at c0 c1 c2 c3 c4
 clear hA0
 have HC : Hid (Calls Tryz.prog 53 #[.slice (some ⟨W0.heap.size, 0, none⟩) 1 1, .int .i64 100] (W0.alloc (.cells #[.int .i64 k, .int .i64 n, .string s, .slice pl nl cl, .slice pm nm cm] 25)) (SomeB (W0.alloc (.cells #[.int .i64 k, .int .i64 n, .string s, .slice pl nl cl, .slice pm nm cm] 25)))) :=
  level7_any _ 100 _ 1 1 [⟨k, n, s, pl, nl, cl, pm, nm, cm⟩] _ (W0.heap.size + 1) rfl (by decide) (by simp) (Rd.one codecV (heap_alloc_new _ _) rfl (by omega)) (TreesV.one ot (HT.out.under (hB0.alloc hB0.size _) (by have := hB0.size; omega))) (by decide)
 by_cases h1 : nl <= 10000
 ·by_cases h2 : nm <= 10000
  ·have hnm : Hid (∀ b : Bool, b = true -> nm <= 10000) := fun _ _ => h2
   go_wp2_with (go_at_call 53; refine HC.out.mono ?_; rintro e w1 ⟨b, rfl, hb1'⟩)
   all_goals go_ret
   all_goals exact ⟨_, rfl, hnm.out _, (hB0.alloc hB0.size _).trans (hb1'.mono (by have := hB0.size; simp; omega))⟩
  ·go_wp2_with fail
   go_ret
   exact ⟨false, rfl, (fun h => by cases h), hB0⟩
 ·go_wp2_with fail
  go_ret
  exact ⟨false, rfl, (fun h => by cases h), hB0⟩
theorem few7_any (t : JV) (r : RV) (most : Int) (w : World) (ht : TreeOf w w.heap.size t r) (ot : t.Ok) :
 Calls Tryz.prog 10 #[r.val, .int .i64 most] w (SomeF r.nm w) := by
 have HT := Lib.hid ht
 have hA0 : VAt (w.alloc (.cells #[.int .i64 r.k, .int .i64 r.n, .string r.s, .slice r.pl r.nl r.cl, .slice r.pm r.nm r.cm] 25)) w.heap.size r := heap_alloc_at rfl
 have hB0 : Below w.heap.size w (w.alloc (.cells #[.int .i64 r.k, .int .i64 r.n, .string r.s, .slice r.pl r.nl r.cl, .slice r.pm r.nm r.cm] 25)) := (Below.refl _ _).alloc (Nat.le_refl _) _
 clear ht
 go_enter Tryz.func10, Tryz.ntmps10
 go_upto_region 1 with fail
 obtain ⟨W0, hW0⟩ : ∃ W0, (w.alloc (.cells #[.int .i64 r.k, .int .i64 r.n, .string r.s, .slice r.pl r.nl r.cl, .slice r.pm r.nm r.cm] 25)) = W0 := ⟨_, rfl⟩
 rw [hW0] at hA0 hB0 ⊢
 clear hW0
 have hz := hA0.lt
 obtain ⟨c0, c1, c2, c3, c4⟩ := hA0.cells5
 clear hA0
 have HD : Hid (∀ W, Below w.heap.size w W -> Calls Tryz.prog 29 #[r.val, .int .i64 100] W (SomeF r.nm W)) := fun W hb => deep7_any t r W (HT.out.under hb hb.size) ot
 have HN : Hid (∀ W, Below w.heap.size w W -> Calls Tryz.prog 30 #[r.val, .int .i64 most] W (SomeI W)) := fun W hb => count7_any _ t r most W (Nat.le_refl _) (HT.out.under hb hb.size) ot
 have HO : Hid (∀ W, Below w.heap.size w W -> Calls Tryz.prog 31 #[r.val] W (SomeB W)) := fun W hb => own7_any _ t r W (Nat.le_refl _) (HT.out.under hb hb.size) ot
 go_wp2_with (first
  | (go_at_call 29; refine (HD.out _ hB0).mono ?_; rintro e w1 ⟨b1, rfl, hbL, hbA⟩; (have hb1 := hB0.trans (hbA.mono hB0.size)); (have d0 := bcs hbA hz c0); (have d1 := bcs hbA hz c1); (have d2 := bcs hbA hz c2); (have d3 := bcs hbA hz c3); (have d4 := bcs hbA hz c4); cases b1)
  | (go_at_call 30; refine (HN.out _ hb1).mono ?_; rintro e w2 ⟨d, rfl, hbB⟩; (have hb2 := hb1.trans (hbB.mono hb1.size)); (have hz1 := Nat.lt_of_lt_of_le hz hbA.size); (have e0 := bcs hbB hz1 d0); (have e1 := bcs hbB hz1 d1); (have e2 := bcs hbB hz1 d2); (have e3 := bcs hbB hz1 d3); (have e4 := bcs hbB hz1 d4); (by_cases hd : d <= most))
  | (go_at_call 31; refine (HO.out _ hb2).mono ?_; rintro e w3 ⟨b3, rfl, hbC⟩; (have hb3 := hb2.trans (hbC.mono hb2.size))))
 all_goals go_ret
 all_goals first | (refine ⟨b3, rfl, ?_, hb3⟩; have h := hbL.out; exact fun _ => h trivial) | exact ⟨false, rfl, (fun h => by cases h), hb2⟩ | exact ⟨false, rfl, (fun h => by cases h), hb1⟩
def OwnM (t : JV) : Prop := (t.k ≠ 5 -> t.l = []) /\ ∀ p ∈ t.m, p.2.k ≠ 5 -> p.2.l = []
def OwnRet7 (w : World) (t : JV) (e : Ending) (w' : World) : Prop := ∃ b : Bool, e = .returned (.bool b) /\ Hid (b = true -> OwnM t) /\ Below w.heap.size w w'
theorem own_leaf {k : Int} {nl : Nat} {b5 : Bool} (h5 : (k != 5) = b5) (h : b5 = true -> ¬ 0 < nl) : k ≠ 5 -> nl = 0 := fun hk => by
 have h2 : (k != 5) = true := by simpa using hk
 have := h (h5.symm.trans h2)
 omega
theorem own7m_any (N : Nat) : ∀ (t : JV) (r : RV) (w : World), SizeOf.sizeOf t <= N -> TreeOf w w.heap.size t r -> t.Ok ->
 Calls Tryz.prog 31 #[r.val] w (OwnRet7 w t) := by
 induction N with
 | zero => intro t r w hN; cases t; simp at hN
 | succ N ih =>
   intro t r w hN ht ot
   cases ht with
   | @mk _ l m rs rms hl el hcl hm em hcn hcm =>
   obtain ⟨k, n, s, pl, nl, cl, pm, nm, cm⟩ := r
   cases ot with
   | mk _ _ _ bl bm okl oks okm =>
   dsimp only [RV.val] at *
   have eL := rd_nlen hl
   have eM := rd_nlen hm
   have HT : Hid (∀ (i : Nat) t q, l[i]? = some t -> rs[i]? = some q -> ∀ W, Below w.heap.size w W -> Calls Tryz.prog 31 #[q.val] W (OwnRet7 W t)) :=
    fun i t q h1 h2 W hb => ih t q W (by have := JV.lt_l (k := k) (n := n) (s := s) (m := m) h1; omega) ((hcl i t q h1 h2).under hb hb.size) (okl i t h1)
   have HS : Hid (∀ (i : Nat) p q, m[i]? = some p -> rms[i]? = some q -> ∀ W, Below w.heap.size w W -> Calls Tryz.prog 31 #[q.v.val] W (OwnRet7 W p.2)) :=
    fun i p q h1 h2 W hb => ih p.2 q.v W (by have := JV.lt_m (k := k) (n := n) (s := s) (l := l) h1; omega) ((hcm i p q h1 h2).under hb hb.size) (okm i p h1)
   have HL := Lib.hid hl
   have HM := Lib.hid hm
   have E1 : Hid (l.length = nl /\ rs.length = nl) := ⟨by omega, by omega⟩
   have HE1 : Hid (l.length = nl) := by unfold Hid; omega
   have E2 : Hid (m.length = nm /\ rms.length = nm) := ⟨by omega, by omega⟩
   have hnl : nl <= 1759218604390 := by omega
   have hnm : nm <= 1466015503658 := by omega
   have hA0 : VAt (w.alloc (.cells #[.int .i64 k, .int .i64 n, .string s, .slice pl nl cl, .slice pm nm cm] 25)) w.heap.size ⟨k, n, s, pl, nl, cl, pm, nm, cm⟩ := heap_alloc_at rfl
   have hB0 : Below w.heap.size w (w.alloc (.cells #[.int .i64 k, .int .i64 n, .string s, .slice pl nl cl, .slice pm nm cm] 25)) := (Below.refl _ _).alloc (Nat.le_refl _) _
   clear ih hcl hcn hcm hl hm okl oks okm el em bl bm eL eM hN
   go_enter Tryz.func31, Tryz.ntmps31
   go_upto_region 1 with fail
   obtain ⟨W0, hW0⟩ : ∃ W0, (w.alloc (.cells #[.int .i64 k, .int .i64 n, .string s, .slice pl nl cl, .slice pm nm cm] 25)) = W0 := ⟨_, rfl⟩
   rw [hW0] at hA0 hB0 ⊢
   clear hW0
   have hz := hA0.lt
   have c0 := hA0.cell 0 rfl
   have c3 := hA0.cell 3 rfl
   have c4 := hA0.cell 4 rfl
   dsimp only at c0 c3 c4
   have HA := Lib.hid hA0
   clear hA0
   go_cut [24] from 5 to 24 (fun v wr => ∃ b : Bool, v = .bool b /\ Hid (b = false -> k ≠ 5 -> nl = 0) /\ wr = W0)
   case first =>
    cases h5 : (k != 5) <;> cases h6 : (k != 6) <;> by_cases p1 : 0 < nl <;> by_cases p2 : 0 < nm
    all_goals go_wp2_with fail
    all_goals (go_meet; refine ⟨_, rfl, fun hb => ?_, rfl⟩; first | (cases hb; done) | exact own_leaf h5 (fun h => by first | (cases h; done) | exact p1))
   case rest =>
   obtain ⟨b, rfl, HB5, rfl⟩ := hcut
   cases b with
   | true =>
     go_wp2_with fail
     go_ret
     exact ⟨false, rfl, (fun h => by cases h), hB0⟩
   | false =>
     go_wp2_with fail
     go_loopw [3] (fun i wr => ∃ j : Nat, j <= nl /\ i = .int .i64 j /\ Below wc.heap.size wc wr) (fun i _ => nl - (intOf i).toNat)
     case atStart => exact ⟨0, Nat.zero_le _, rfl, Below.refl _ _⟩
     case round =>
      obtain ⟨j, hj, rfl, hbr⟩ := hrel
      have c3 := bcs hbr hz c3
      have hbw : Below w.heap.size w wr := hB0.trans (hbr.mono hB0.size)
      by_cases hlt : j < nl
      ·obtain ⟨tx, htx⟩ : ∃ x, l[j]? = some x := ⟨_, List.getElem?_eq_getElem (by have := E1.out; omega)⟩
       obtain ⟨x, hx⟩ : ∃ x, rs[j]? = some x := ⟨_, List.getElem?_eq_getElem (by have := E1.out; omega)⟩
       obtain ⟨b1, o1, rfl, hb1, hc1⟩ := rd_at' (HL.out.below hbw (Nat.le_refl _)) hx
       have f0 := hc1 0 _ rfl
       have f1 := hc1 1 _ rfl
       have f2 := hc1 2 _ rfl
       have f3 := hc1 3 _ rfl
       have f4 := hc1 4 _ rfl
       rw [Nat.add_zero] at f0
       have HC := Lib.hid (HT.out j tx x htx hx)
       have hk0 : (0 : Int) <= (j : Int) := Int.natCast_nonneg _
       have hk1 : (j : Int) < (nl : Int) := by omega
       have hzr : wc.heap.size <= wr.heap.size := hbr.size
       have HBR := Lib.hid hbr
       clear hc1 htx hx hbr
       go_wp2_with (go_at_call 31; refine (HC.out _ hbw).mono ?_; rintro e w1 ⟨b, rfl, hM, hb1'⟩; cases b)
       ·go_ret
        exact ⟨false, rfl, (fun h => by cases h), hbw.trans (hb1'.mono hbw.size)⟩
       ·go_roundw
        case rel => exact ⟨j + 1, by omega, by go_num, HBR.out.trans (hb1'.mono (by omega))⟩
        case measure => simp [intOf]; omega
      ·obtain rfl : j = nl := by omega
       have hz1 : wc.heap.size <= wr.heap.size := hbr.size
       have c4 := bcs hbr hz c4
       clear HT HL E1 hbr
       obtain ⟨wo, rfl⟩ : ∃ wo : World, wo = wr := ⟨_, rfl⟩
       go_wp2_with fail
       clear c3
       go_loopw [4] (fun i wq => ∃ j : Nat, j <= nm /\ i = .int .i64 j /\ Hid (∀ (i : Nat) p, i < j -> m[i]? = some p -> p.2.k ≠ 5 -> p.2.l = []) /\ Below wo.heap.size wo wq) (fun i _ => nm - (intOf i).toNat)
       case atStart => exact ⟨0, Nat.zero_le _, rfl, (fun i p h => by omega), Below.refl _ _⟩
       case round =>
        obtain ⟨wq, rfl⟩ : ∃ wq : World, wq = wr := ⟨_, rfl⟩
        obtain ⟨j, hj, rfl, HMJ, hbr⟩ := hrel
        have hbw2 : Below w.heap.size w wq := hbw.trans (hbr.mono (by omega))
        have c4 := bcs hbr (by omega) c4
        by_cases hlt : j < nm
        ·obtain ⟨tx, htx⟩ : ∃ x, m[j]? = some x := ⟨_, List.getElem?_eq_getElem (by have := E2.out; omega)⟩
         obtain ⟨x, hx⟩ : ∃ x, rms[j]? = some x := ⟨_, List.getElem?_eq_getElem (by have := E2.out; omega)⟩
         obtain ⟨b1, o1, rfl, hb1, hc1⟩ := rd_at' (HM.out.below hbw2 (Nat.le_refl _)) hx
         have f0 := hc1 0 _ rfl
         have f1 := hc1 1 _ rfl
         have f2 := hc1 2 _ rfl
         have f3 := hc1 3 _ rfl
         have f4 := hc1 4 _ rfl
         have f5 := hc1 5 _ rfl
         rw [Nat.add_zero] at f0
         have HC := Lib.hid (HS.out j tx x htx hx)
         have HTX := Lib.hid htx
         have hk0 : (0 : Int) <= (j : Int) := Int.natCast_nonneg _
         have hk1 : (j : Int) < (nm : Int) := by omega
         have hzr : wc.heap.size <= wq.heap.size := by have := hbr.size; omega
         have hzq : wo.heap.size <= wq.heap.size := hbr.size
         have HBR := Lib.hid hbr
         clear hc1 htx hx hbr
         go_wp2_with (go_at_call 31; refine (HC.out _ hbw2).mono ?_; rintro e w1 ⟨b, rfl, hM, hb1'⟩; cases b)
         ·go_ret
          exact ⟨false, rfl, (fun h => by cases h), hbw2.trans (hb1'.mono hbw2.size)⟩
         ·go_roundw
          case rel =>
           refine ⟨j + 1, by omega, by go_num, fun i p hi hp => ?_, HBR.out.trans (hb1'.mono (by omega))⟩
           by_cases hij : i < j
           ·exact HMJ.out i p hij hp
           ·obtain rfl : i = j := by omega
            obtain rfl : tx = p := Option.some.inj (HTX.out.symm.trans hp)
            exact (hM.out (by trivial)).1
          case measure => simp [intOf]; omega
        ·obtain rfl : j = nm := by omega
         go_wp2_with fail
         go_ret
         refine ⟨true, rfl, fun _ => ⟨fun hk => ?_, fun p hp => ?_⟩, hbw2⟩
         ·have h1 := HB5.out (by trivial) hk
          have h2 := HE1.out
          exact List.eq_nil_of_length_eq_zero (by show l.length = 0; omega)
         ·obtain ⟨i, hi⟩ := List.getElem?_of_mem hp
          have hlt := (List.getElem?_eq_some_iff.1 hi).1
          exact HMJ.out i p (by have := E2.out; have h3 : i < m.length := hlt; omega) hi
def FewBx (w : World) (b : BoxD) (e : Ending) (w' : World) : Prop := ∃ y : Bool, e = .returned (.bool y) /\ Hid (y = true -> b.objs.length <= 100 /\ b.trail.length <= 300) /\ Below w.heap.size w w'
theorem BoxD.ext' {a b : BoxD} (h1 : a.objs = b.objs) (h2 : a.trail = b.trail) (h3 : a.seq = b.seq) (h4 : a.floor = b.floor) (h5 : a.keep = b.keep) : a = b := by
 cases a; cases b; simp_all
def SomeM (t : JV) (n : Nat) (w : World) (e : Ending) (w' : World) : Prop := ∃ b : Bool, e = .returned (.bool b) /\ Hid (b = true -> n <= 10000 /\ OwnM t) /\ Below w.heap.size w w'
def FewBm (w : World) (b : BoxD) (e : Ending) (w' : World) : Prop := ∃ y : Bool, e = .returned (.bool y) /\ Hid (y = true -> (b.objs.length <= 100 /\ b.trail.length <= 300) /\ ∀ p ∈ b.objs, p.2.m.length <= 10000) /\ Below w.heap.size w w'
theorem few7m_any (t : JV) (r : RV) (most : Int) (w : World) (ht : TreeOf w w.heap.size t r) (ot : t.Ok) :
 Calls Tryz.prog 10 #[r.val, .int .i64 most] w (SomeM t r.nm w) := by
 have HT := Lib.hid ht
 have hA0 : VAt (w.alloc (.cells #[.int .i64 r.k, .int .i64 r.n, .string r.s, .slice r.pl r.nl r.cl, .slice r.pm r.nm r.cm] 25)) w.heap.size r := heap_alloc_at rfl
 have hB0 : Below w.heap.size w (w.alloc (.cells #[.int .i64 r.k, .int .i64 r.n, .string r.s, .slice r.pl r.nl r.cl, .slice r.pm r.nm r.cm] 25)) := (Below.refl _ _).alloc (Nat.le_refl _) _
 clear ht
 go_enter Tryz.func10, Tryz.ntmps10
 go_upto_region 1 with fail
 obtain ⟨W0, hW0⟩ : ∃ W0, (w.alloc (.cells #[.int .i64 r.k, .int .i64 r.n, .string r.s, .slice r.pl r.nl r.cl, .slice r.pm r.nm r.cm] 25)) = W0 := ⟨_, rfl⟩
 rw [hW0] at hA0 hB0 ⊢
 clear hW0
 have hz := hA0.lt
 obtain ⟨c0, c1, c2, c3, c4⟩ := hA0.cells5
 clear hA0
 have HD : Hid (∀ W, Below w.heap.size w W -> Calls Tryz.prog 29 #[r.val, .int .i64 100] W (SomeF r.nm W)) := fun W hb => deep7_any t r W (HT.out.under hb hb.size) ot
 have HN : Hid (∀ W, Below w.heap.size w W -> Calls Tryz.prog 30 #[r.val, .int .i64 most] W (SomeI W)) := fun W hb => count7_any _ t r most W (Nat.le_refl _) (HT.out.under hb hb.size) ot
 have HO : Hid (∀ W, Below w.heap.size w W -> Calls Tryz.prog 31 #[r.val] W (OwnRet7 W t)) := fun W hb => own7m_any _ t r W (Nat.le_refl _) (HT.out.under hb hb.size) ot
 go_wp2_with (first
  | (go_at_call 29; refine (HD.out _ hB0).mono ?_; rintro e w1 ⟨b1, rfl, hbL, hbA⟩; (have hb1 := hB0.trans (hbA.mono hB0.size)); (have d0 := bcs hbA hz c0); (have d1 := bcs hbA hz c1); (have d2 := bcs hbA hz c2); (have d3 := bcs hbA hz c3); (have d4 := bcs hbA hz c4); cases b1)
  | (go_at_call 30; refine (HN.out _ hb1).mono ?_; rintro e w2 ⟨d, rfl, hbB⟩; (have hb2 := hb1.trans (hbB.mono hb1.size)); (have hz1 := Nat.lt_of_lt_of_le hz hbA.size); (have e0 := bcs hbB hz1 d0); (have e1 := bcs hbB hz1 d1); (have e2 := bcs hbB hz1 d2); (have e3 := bcs hbB hz1 d3); (have e4 := bcs hbB hz1 d4); (by_cases hd : d <= most))
  | (go_at_call 31; refine (HO.out _ hb2).mono ?_; rintro e w3 ⟨b3, rfl, hM, hbC⟩; (have hb3 := hb2.trans (hbC.mono hb2.size))))
 all_goals go_ret
 all_goals first | (refine ⟨b3, rfl, ?_, hb3⟩; have h := hbL.out; exact fun hb => ⟨h trivial, hM.out hb⟩) | exact ⟨false, rfl, (fun h => by cases h), hb2⟩ | exact ⟨false, rfl, (fun h => by cases h), hb1⟩
end
end Go.Proofs.YtjhginendpjimaaGreatDoor
