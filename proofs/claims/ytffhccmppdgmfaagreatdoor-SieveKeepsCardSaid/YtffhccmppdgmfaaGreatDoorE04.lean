import Derived.Test.YtffhccmppdgmfaaGreatDoorE00
set_option linter.unusedSimpArgs false
set_option linter.unusedVariables false
set_option maxRecDepth 200000
set_option maxHeartbeats 8000000
namespace Go.Proofs.YtffhccmppdgmfaaGreatDoor
section
open Go Go.RowKit Go.OpenShut
inductive JV.LenOk : JV -> Prop
 | mk {k n : Int} {s : ByteArray} {l : List JV} {m : List (ByteArray × JV)} (hl : l.length <= 1759218604390) (hm : m.length <= 1466015503658) (cl : ∀ (i : Nat) (x : JV), l[i]? = some x -> LenOk x) (cm : ∀ (i : Nat) (p : ByteArray × JV), m[i]? = some p -> LenOk p.2) : LenOk (.mk k n s l m)
theorem JV.Ok.len {t : JV} (h : t.Ok) : t.LenOk := by
 induction h with
 | mk _ _ _ hl hm _ _ _ ih1 ih2 => exact .mk hl hm ih1 ih2
theorem same5L_any (N : Nat) : ∀ (t u : JV) (r q : RV) (w : World), SizeOf.sizeOf t <= N -> TreeOf w w.heap.size t r -> TreeOf w w.heap.size u q -> t.LenOk -> u.LenOk ->
 Calls Tryz.prog 36 #[r.val, q.val] w (Said w (t = u)) := by
 induction N with
 | zero => intro t u r q w hN; cases t; simp at hN
 | succ N ih =>
   intro t u r q w hN ht hu ot ou
   cases ht with
   | @mk _ l1 m1 rs1 rms1 hl1 el1 hcl1 hm1 em1 hcn1 hcm1 =>
   cases hu with
   | @mk _ l2 m2 rs2 rms2 hl2 el2 hcl2 hm2 em2 hcn2 hcm2 =>
   have eL1 := rd_nlen hl1
   have eL2 := rd_nlen hl2
   have eM1 := rd_nlen hm1
   have eM2 := rd_nlen hm2
   by_cases hall : r.k = q.k /\ r.n = q.n /\ r.s = q.s /\ r.nl = q.nl /\ r.nm = q.nm
   ·obtain ⟨k1, n1, s1, pl1, nl1, cl1, pm1, nm1, cm1⟩ := r
    obtain ⟨k2, n2, s2, pl2, nl2, cl2, pm2, nm2, cm2⟩ := q
    dsimp only [RV.val] at *
    obtain ⟨rfl, rfl, rfl, rfl, rfl⟩ := hall
    cases ot with
    | mk bl1 bm1 okl1 okm1 =>
    cases ou with
    | mk bl2 bm2 okl2 okm2 =>
    have HT : Hid (∀ (k : Nat) tx ty x y, l1[k]? = some tx -> l2[k]? = some ty -> rs1[k]? = some x -> rs2[k]? = some y -> ∀ W, Below w.heap.size w W -> Calls Tryz.prog 36 #[x.val, y.val] W (Said W (tx = ty))) :=
     fun k tx ty x y h1 h2 h3 h4 W hb => ih tx ty x y W (by have := JV.lt_l (k := k1) (n := n1) (s := s1) (m := m1) h1; omega) ((hcl1 k tx x h1 h3).under hb hb.size) ((hcl2 k ty y h2 h4).under hb hb.size) (okl1 k tx h1) (okl2 k ty h2)
    have HS : Hid (∀ (k : Nat) tx ty x y, m1[k]? = some tx -> m2[k]? = some ty -> rms1[k]? = some x -> rms2[k]? = some y -> ∀ W, Below w.heap.size w W -> Calls Tryz.prog 36 #[x.v.val, y.v.val] W (Said W (tx.2 = ty.2))) :=
     fun k tx ty x y h1 h2 h3 h4 W hb => ih tx.2 ty.2 x.v y.v W (by have := JV.lt_m (k := k1) (n := n1) (s := s1) (l := l1) h1; omega) ((hcm1 k tx x h1 h3).under hb hb.size) ((hcm2 k ty y h2 h4).under hb hb.size) (okm1 k tx h1) (okm2 k ty h2)
    have HN1 := Lib.hid hcn1
    have HN2 := Lib.hid hcn2
    have HL1 := Lib.hid hl1
    have HL2 := Lib.hid hl2
    have HM1 := Lib.hid hm1
    have HM2 := Lib.hid hm2
    have hnl : nl1 <= 1759218604390 := by omega
    have hnm : nm1 <= 1466015503658 := by omega
    have E1 : Hid (l1.length = nl1 /\ l2.length = nl1 /\ rs1.length = nl1 /\ rs2.length = nl1) := ⟨by omega, by omega, by omega, by omega⟩
    have E2 : Hid (m1.length = nm1 /\ m2.length = nm1 /\ rms1.length = nm1 /\ rms2.length = nm1) := ⟨by omega, by omega, by omega, by omega⟩
    clear ih hcl1 hcl2 hcm1 hcm2 hcn1 hcn2 hl1 hl2 hm1 hm2 okl1 okl2 okm1 okm2 el1 el2 em1 em2 eL1 eL2 eM1 eM2 bl1 bl2 bm1 bm2 hN
    go_enter Tryz.func36, Tryz.ntmps36
    go_upto_region 1 with fail
    have hA0 : VAt ((w.alloc (.cells #[.int .i64 k1, .int .i64 n1, .string s1, .slice pl1 nl1 cl1, .slice pm1 nm1 cm1] 25)).alloc (.cells #[.int .i64 k1, .int .i64 n1, .string s1, .slice pl2 nl1 cl2, .slice pm2 nm1 cm2] 25)) w.heap.size ⟨k1, n1, s1, pl1, nl1, cl1, pm1, nm1, cm1⟩ := heap_alloc_lt (by simp) (heap_alloc_at rfl)
    have hA1 : VAt ((w.alloc (.cells #[.int .i64 k1, .int .i64 n1, .string s1, .slice pl1 nl1 cl1, .slice pm1 nm1 cm1] 25)).alloc (.cells #[.int .i64 k1, .int .i64 n1, .string s1, .slice pl2 nl1 cl2, .slice pm2 nm1 cm2] 25)) (w.heap.size + 1) ⟨k1, n1, s1, pl2, nl1, cl2, pm2, nm1, cm2⟩ := heap_alloc_at (by simp)
    have hB0 := below2 w (.cells #[.int .i64 k1, .int .i64 n1, .string s1, .slice pl1 nl1 cl1, .slice pm1 nm1 cm1] 25) (.cells #[.int .i64 k1, .int .i64 n1, .string s1, .slice pl2 nl1 cl2, .slice pm2 nm1 cm2] 25)
    obtain ⟨W0, hW0⟩ : ∃ W0, ((w.alloc (.cells #[.int .i64 k1, .int .i64 n1, .string s1, .slice pl1 nl1 cl1, .slice pm1 nm1 cm1] 25)).alloc (.cells #[.int .i64 k1, .int .i64 n1, .string s1, .slice pl2 nl1 cl2, .slice pm2 nm1 cm2] 25)) = W0 := ⟨_, rfl⟩
    rw [hW0] at hA0 hA1 hB0 ⊢
    clear hW0
    have HA0 := Lib.hid hA0
    have HA1 := Lib.hid hA1
    obtain ⟨p0, p1, p2, p3, p4⟩ := hA0.cells5
    obtain ⟨q0, q1, q2, q3, q4⟩ := hA1.cells5
    have hz := hA1.lt
    clear hA0 hA1
    go_wp2_with fail
    go_loopw [5] (fun i wr => ∃ k : Nat, k <= nl1 /\ i = .int .i64 k /\ Hid (l1.take k = l2.take k) /\ Below W0.heap.size W0 wr) (fun i _ => nl1 - (intOf i).toNat)
    case atStart => exact ⟨0, Nat.zero_le _, rfl, rfl, Below.refl _ _⟩
    case round =>
     obtain ⟨k, hk, rfl, hsm, hbr⟩ := hrel
     have hbw : Below w.heap.size w wr := hB0.trans (hbr.mono (by omega))
     have p3 := bcs hbr (by omega) p3
     have q3 := bcs hbr (by omega) q3
     by_cases hlt : k < nl1
     ·obtain ⟨tx, htx⟩ : ∃ x, l1[k]? = some x := ⟨_, List.getElem?_eq_getElem (by have := E1.out; omega)⟩
      obtain ⟨ty, hty⟩ : ∃ x, l2[k]? = some x := ⟨_, List.getElem?_eq_getElem (by have := E1.out; omega)⟩
      obtain ⟨x, hx⟩ : ∃ x, rs1[k]? = some x := ⟨_, List.getElem?_eq_getElem (by have := E1.out; omega)⟩
      obtain ⟨y, hy⟩ : ∃ x, rs2[k]? = some x := ⟨_, List.getElem?_eq_getElem (by have := E1.out; omega)⟩
      obtain ⟨b1, o1, rfl, hb1, hc1⟩ := rd_at' (HL1.out.below hbw (Nat.le_refl _)) hx
      obtain ⟨b2, o2, rfl, hb2, hc2⟩ := rd_at' (HL2.out.below hbw (Nat.le_refl _)) hy
      have f0 := hc1 0 _ rfl
      have f1 := hc1 1 _ rfl
      have f2 := hc1 2 _ rfl
      have f3 := hc1 3 _ rfl
      have f4 := hc1 4 _ rfl
      have g0 := hc2 0 _ rfl
      have g1 := hc2 1 _ rfl
      have g2 := hc2 2 _ rfl
      have g3 := hc2 3 _ rfl
      have g4 := hc2 4 _ rfl
      rw [Nat.add_zero] at f0 g0
      have HC := Lib.hid (HT.out k tx ty x y htx hty hx hy)
      have hk0 : (0 : Int) <= (k : Int) := Int.natCast_nonneg _
      have hk1 : (k : Int) < (nl1 : Int) := by omega
      have HTX := Lib.hid htx
      have HTY := Lib.hid hty
      clear hc1 hc2 htx hty hx hy
      have hzr : W0.heap.size <= wr.heap.size := hbr.size
      have HBR := Lib.hid hbr
      by_cases hxy : tx = ty
      ·have HXY := Lib.hid hxy
       have HNX := Lib.hid (take_eq HTX.out (hxy ▸ HTY.out) hsm.out)
       clear hxy hbr
       go_wp2_with fail
       go_region_held3 (fun w' => w'.cell? ⟨w.heap.size, 3, none⟩ = some (.slice (some ⟨b1, o1, none⟩) nl1 cl1) /\ w'.cell? ⟨w.heap.size + 1, 3, none⟩ = some (.slice (some ⟨b2, o2, none⟩) nl1 cl2) /\
        w'.cell? ⟨b1, o1 + k * 5, none⟩ = some (.int .i64 x.k) /\ w'.cell? ⟨b1, o1 + k * 5 + 1, none⟩ = some (.int .i64 x.n) /\ w'.cell? ⟨b1, o1 + k * 5 + 2, none⟩ = some (.string x.s) /\ w'.cell? ⟨b1, o1 + k * 5 + 3, none⟩ = some (.slice x.pl x.nl x.cl) /\ w'.cell? ⟨b1, o1 + k * 5 + 4, none⟩ = some (.slice x.pm x.nm x.cm) /\
        w'.cell? ⟨b2, o2 + k * 5, none⟩ = some (.int .i64 y.k) /\ w'.cell? ⟨b2, o2 + k * 5 + 1, none⟩ = some (.int .i64 y.n) /\ w'.cell? ⟨b2, o2 + k * 5 + 2, none⟩ = some (.string y.s) /\ w'.cell? ⟨b2, o2 + k * 5 + 3, none⟩ = some (.slice y.pl y.nl y.cl) /\ w'.cell? ⟨b2, o2 + k * 5 + 4, none⟩ = some (.slice y.pm y.nm y.cm))
        (first | go_keep | (go_split_ands; refine ⟨?_, ?_, ?_, ?_, ?_, ?_, ?_, ?_, ?_, ?_, ?_, ?_⟩ <;> (rw [hb1'.cell (by simp; omega)]; assumption)))
        ((go_at_call 36; refine (HC.out _ ?_).mono ?_; (repeat (first | exact hbw | apply Below.drew)); intro e w1 hs1; obtain ⟨rfl, hb1'⟩ := hs1.yes HXY.out))
       go_wp2_with fail
       go_roundw
       case rel => exact ⟨k + 1, by omega, by go_num, HNX, HBR.out.drew.trans (hb1'.mono (by simp; omega))⟩
       case measure => simp [intOf]; omega
      ·have HXY := Lib.hid hxy
       have HNX := Lib.hid (ne_of_at HTX.out HTY.out hxy)
       clear hxy hbr
       go_wp2_with fail
       go_region_held3 (fun w' => w'.cell? ⟨w.heap.size, 3, none⟩ = some (.slice (some ⟨b1, o1, none⟩) nl1 cl1) /\ w'.cell? ⟨w.heap.size + 1, 3, none⟩ = some (.slice (some ⟨b2, o2, none⟩) nl1 cl2) /\
        w'.cell? ⟨b1, o1 + k * 5, none⟩ = some (.int .i64 x.k) /\ w'.cell? ⟨b1, o1 + k * 5 + 1, none⟩ = some (.int .i64 x.n) /\ w'.cell? ⟨b1, o1 + k * 5 + 2, none⟩ = some (.string x.s) /\ w'.cell? ⟨b1, o1 + k * 5 + 3, none⟩ = some (.slice x.pl x.nl x.cl) /\ w'.cell? ⟨b1, o1 + k * 5 + 4, none⟩ = some (.slice x.pm x.nm x.cm) /\
        w'.cell? ⟨b2, o2 + k * 5, none⟩ = some (.int .i64 y.k) /\ w'.cell? ⟨b2, o2 + k * 5 + 1, none⟩ = some (.int .i64 y.n) /\ w'.cell? ⟨b2, o2 + k * 5 + 2, none⟩ = some (.string y.s) /\ w'.cell? ⟨b2, o2 + k * 5 + 3, none⟩ = some (.slice y.pl y.nl y.cl) /\ w'.cell? ⟨b2, o2 + k * 5 + 4, none⟩ = some (.slice y.pm y.nm y.cm))
        (first | go_keep | (go_split_ands; refine ⟨?_, ?_, ?_, ?_, ?_, ?_, ?_, ?_, ?_, ?_, ?_, ?_⟩ <;> (rw [hb1'.cell (by simp; omega)]; assumption)))
        ((go_at_call 36; refine (HC.out _ ?_).mono ?_; (repeat (first | exact hbw | apply Below.drew)); intro e w1 hs1; obtain ⟨rfl, hb1'⟩ := hs1.no HXY.out))
       go_wp2_with fail
       go_ret
       exact ⟨false, rfl, by simp; exact fun h => absurd h HNX.out, hbw.drew.trans (hb1'.mono hbw.size)⟩
     ·obtain rfl : k = nl1 := by omega
      have hll : l1 = l2 := by
       have h := hsm.out
       have h1 := E1.out
       rw [List.take_of_length_le (by omega), List.take_of_length_le (by omega)] at h
       exact h
      subst hll
      have hz1 : W0.heap.size <= wr.heap.size := hbr.size
      have HB1 := Lib.hid hbr
      have p4 := bcs hbr (by omega) p4
      have q4 := bcs hbr (by omega) q4
      clear HT HL1 HL2 E1 hsm hbr
      obtain ⟨wo, rfl⟩ : ∃ wo : World, wo = wr := ⟨_, rfl⟩
      go_wp2_with fail
      clear p3 q3
      go_loopw [6] (fun i wq => ∃ k : Nat, k <= nm1 /\ i = .int .i64 k /\ Hid (m1.take k = m2.take k) /\ Below wo.heap.size wo wq) (fun i _ => nm1 - (intOf i).toNat)
      case atStart => exact ⟨0, Nat.zero_le _, rfl, rfl, Below.refl _ _⟩
      case round =>
       obtain ⟨wq, rfl⟩ : ∃ wq : World, wq = wr := ⟨_, rfl⟩
       obtain ⟨k, hk, rfl, hsm, hbr⟩ := hrel
       have hbw2 : Below w.heap.size w wq := hbw.trans (hbr.mono (by omega))
       have p4 := bcs hbr (by omega) p4
       have q4 := bcs hbr (by omega) q4
       by_cases hlt : k < nm1
       ·obtain ⟨tx, htx⟩ : ∃ x, m1[k]? = some x := ⟨_, List.getElem?_eq_getElem (by have := E2.out; omega)⟩
        obtain ⟨ty, hty⟩ : ∃ x, m2[k]? = some x := ⟨_, List.getElem?_eq_getElem (by have := E2.out; omega)⟩
        obtain ⟨x, hx⟩ : ∃ x, rms1[k]? = some x := ⟨_, List.getElem?_eq_getElem (by have := E2.out; omega)⟩
        obtain ⟨y, hy⟩ : ∃ x, rms2[k]? = some x := ⟨_, List.getElem?_eq_getElem (by have := E2.out; omega)⟩
        obtain ⟨b1, o1, rfl, hb1, hc1⟩ := rd_at' (HM1.out.below hbw2 (Nat.le_refl _)) hx
        obtain ⟨b2, o2, rfl, hb2, hc2⟩ := rd_at' (HM2.out.below hbw2 (Nat.le_refl _)) hy
        have f0 := hc1 0 _ rfl
        have f1 := hc1 1 _ rfl
        have f2 := hc1 2 _ rfl
        have f3 := hc1 3 _ rfl
        have f4 := hc1 4 _ rfl
        have f5 := hc1 5 _ rfl
        have g0 := hc2 0 _ rfl
        have g1 := hc2 1 _ rfl
        have g2 := hc2 2 _ rfl
        have g3 := hc2 3 _ rfl
        have g4 := hc2 4 _ rfl
        have g5 := hc2 5 _ rfl
        rw [Nat.add_zero] at f0 g0
        have HC := Lib.hid (HS.out k tx ty x y htx hty hx hy)
        have hk0 : (0 : Int) <= (k : Int) := Int.natCast_nonneg _
        have hk1 : (k : Int) < (nm1 : Int) := by omega
        have HTX := Lib.hid htx
        have HTY := Lib.hid hty
        have en1 := HN1.out k tx x htx hx
        have en2 := HN2.out k ty y hty hy
        clear hc1 hc2 htx hty hx hy
        have hzr : W0.heap.size <= wq.heap.size := by have := hbr.size; omega
        have hzq : wo.heap.size <= wq.heap.size := hbr.size
        have HBR := Lib.hid hbr
        by_cases hnm : x.name = y.name
        ·have hq : (x.name.toList == y.name.toList) = true := by rw [str_beq]; simpa using hnm
         have hqn : (x.name.toList != y.name.toList) = false := by rw [bne, hq]; rfl
         by_cases hxy : tx.2 = ty.2
         ·have HXY := Lib.hid hxy
          have hxe : tx = ty := Prod.ext (by rw [en1, en2]; exact hnm) hxy
          have HNX := Lib.hid (take_eq HTX.out (hxe ▸ HTY.out) hsm.out)
          clear hxy hxe en1 en2 hbr hnm
          go_wp2_with fail
          go_region_held3 (fun w' => w'.cell? ⟨w.heap.size, 4, none⟩ = some (.slice (some ⟨b1, o1, none⟩) nm1 cm1) /\ w'.cell? ⟨w.heap.size + 1, 4, none⟩ = some (.slice (some ⟨b2, o2, none⟩) nm1 cm2) /\
         w'.cell? ⟨b1, o1 + k * 6, none⟩ = some (.string x.name) /\ w'.cell? ⟨b1, o1 + k * 6 + 1, none⟩ = some (.int .i64 x.v.k) /\ w'.cell? ⟨b1, o1 + k * 6 + 2, none⟩ = some (.int .i64 x.v.n) /\ w'.cell? ⟨b1, o1 + k * 6 + 3, none⟩ = some (.string x.v.s) /\ w'.cell? ⟨b1, o1 + k * 6 + 4, none⟩ = some (.slice x.v.pl x.v.nl x.v.cl) /\ w'.cell? ⟨b1, o1 + k * 6 + 5, none⟩ = some (.slice x.v.pm x.v.nm x.v.cm) /\
         w'.cell? ⟨b2, o2 + k * 6, none⟩ = some (.string y.name) /\ w'.cell? ⟨b2, o2 + k * 6 + 1, none⟩ = some (.int .i64 y.v.k) /\ w'.cell? ⟨b2, o2 + k * 6 + 2, none⟩ = some (.int .i64 y.v.n) /\ w'.cell? ⟨b2, o2 + k * 6 + 3, none⟩ = some (.string y.v.s) /\ w'.cell? ⟨b2, o2 + k * 6 + 4, none⟩ = some (.slice y.v.pl y.v.nl y.v.cl) /\ w'.cell? ⟨b2, o2 + k * 6 + 5, none⟩ = some (.slice y.v.pm y.v.nm y.v.cm))
          (first | go_keep | (go_split_ands; refine ⟨?_, ?_, ?_, ?_, ?_, ?_, ?_, ?_, ?_, ?_, ?_, ?_, ?_, ?_⟩ <;> (rw [hb1'.cell (by simp; omega)]; assumption)))
          ((go_at_call 36; refine (HC.out _ ?_).mono ?_; (repeat (first | exact hbw2 | apply Below.drew)); intro e w1 hs1; obtain ⟨rfl, hb1'⟩ := hs1.yes HXY.out))
          go_wp2_with fail
          go_roundw
          case rel => exact ⟨k + 1, by omega, by go_num, HNX, HBR.out.drew.trans (hb1'.mono (by simp; omega))⟩
          case measure => simp [intOf]; omega
         ·have HXY := Lib.hid hxy
          have HNX := Lib.hid (ne_of_at HTX.out HTY.out (fun e => hxy (by rw [e])))
          clear hxy en1 en2 hbr hnm
          go_wp2_with fail
          go_region_held3 (fun w' => w'.cell? ⟨w.heap.size, 4, none⟩ = some (.slice (some ⟨b1, o1, none⟩) nm1 cm1) /\ w'.cell? ⟨w.heap.size + 1, 4, none⟩ = some (.slice (some ⟨b2, o2, none⟩) nm1 cm2) /\
         w'.cell? ⟨b1, o1 + k * 6, none⟩ = some (.string x.name) /\ w'.cell? ⟨b1, o1 + k * 6 + 1, none⟩ = some (.int .i64 x.v.k) /\ w'.cell? ⟨b1, o1 + k * 6 + 2, none⟩ = some (.int .i64 x.v.n) /\ w'.cell? ⟨b1, o1 + k * 6 + 3, none⟩ = some (.string x.v.s) /\ w'.cell? ⟨b1, o1 + k * 6 + 4, none⟩ = some (.slice x.v.pl x.v.nl x.v.cl) /\ w'.cell? ⟨b1, o1 + k * 6 + 5, none⟩ = some (.slice x.v.pm x.v.nm x.v.cm) /\
         w'.cell? ⟨b2, o2 + k * 6, none⟩ = some (.string y.name) /\ w'.cell? ⟨b2, o2 + k * 6 + 1, none⟩ = some (.int .i64 y.v.k) /\ w'.cell? ⟨b2, o2 + k * 6 + 2, none⟩ = some (.int .i64 y.v.n) /\ w'.cell? ⟨b2, o2 + k * 6 + 3, none⟩ = some (.string y.v.s) /\ w'.cell? ⟨b2, o2 + k * 6 + 4, none⟩ = some (.slice y.v.pl y.v.nl y.v.cl) /\ w'.cell? ⟨b2, o2 + k * 6 + 5, none⟩ = some (.slice y.v.pm y.v.nm y.v.cm))
          (first | go_keep | (go_split_ands; refine ⟨?_, ?_, ?_, ?_, ?_, ?_, ?_, ?_, ?_, ?_, ?_, ?_, ?_, ?_⟩ <;> (rw [hb1'.cell (by simp; omega)]; assumption)))
          ((go_at_call 36; refine (HC.out _ ?_).mono ?_; (repeat (first | exact hbw2 | apply Below.drew)); intro e w1 hs1; obtain ⟨rfl, hb1'⟩ := hs1.no HXY.out))
          go_wp2_with fail
          go_ret
          exact ⟨false, rfl, by simp; exact fun h => absurd h HNX.out, hbw2.drew.trans (hb1'.mono hbw2.size)⟩
        ·have hq : (x.name.toList == y.name.toList) = false := by rw [str_beq]; simpa using hnm
         have hqn : (x.name.toList != y.name.toList) = true := by rw [bne, hq]; rfl
         have HNX := Lib.hid (ne_of_at HTX.out HTY.out (fun e => hnm (by rw [<- en1, <- en2, e])))
         clear hnm en1 en2 hbr
         go_wp2_with fail
         go_quiet (fail)
         go_wp2_with fail
         go_ret
         exact ⟨false, rfl, by simp; exact fun h => absurd h HNX.out, bdn hbw2 _⟩
       ·obtain rfl : k = nm1 := by omega
        have hmm : m1 = m2 := by
         have h := hsm.out
         have h1 := E2.out
         rw [List.take_of_length_le (by omega), List.take_of_length_le (by omega)] at h
         exact h
        have HMM := Lib.hid hmm
        clear hmm
        go_wp2_with fail
        go_ret
        exact ⟨true, rfl, by rw [HMM.out]; simp, hbw2⟩
   ·refine same5_no r q w _ (fun h => ?_) hall
    simp only [JV.mk.injEq] at h
    obtain ⟨h1, h2, h3, h4, h5⟩ := h
    subst h4 h5
    exact ⟨h1, h2, h3, by omega, by omega⟩
end
end Go.Proofs.YtffhccmppdgmfaaGreatDoor
