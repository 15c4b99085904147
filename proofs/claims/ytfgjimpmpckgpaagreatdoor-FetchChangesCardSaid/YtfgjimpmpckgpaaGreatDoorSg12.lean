import Derived.Test.YtfgjimpmpckgpaaGreatDoorSg01
import Derived.Test.YtfgjimpmpckgpaaGreatDoorSg11
import Derived.Test.YtfgjimpmpckgpaaGreatDoorSg00
import Derived.Deep.RegionHeld3
import Derived.Deep.RegionLaw
import Derived.Test.YtfgjimpmpckgpaaGreatDoorSg03
import Derived.Test.YtfgjimpmpckgpaaGreatDoorSg04
import Derived.Test.YtfgjimpmpckgpaaGreatDoorSg02
set_option linter.unusedSimpArgs false
set_option linter.unusedVariables false
set_option maxRecDepth 200000
set_option maxHeartbeats 8000000
namespace Go.Proofs.YtfgjimpmpckgpaaGreatDoor
section
open Go.RowKit Go.OpenShut
mutual
def countT : JV -> Nat
 | .mk _ _ _ l m => 1 + countL l + countM m
def countL : List JV -> Nat
 | [] => 0
 | t :: l => countT t + countL l
def countM : List (ByteArray × JV) -> Nat
 | [] => 0
 | (_, t) :: m => countT t + countM m
end
mutual
def chkT : JV -> Nat -> Nat -> Int × Nat
 | .mk k n s l m, d, p => if 16 < d then (51, p) else if 8192 < p + 1 then (53, p + 1) else if rightP k n s l.length (m.map (·.1)) = false then (1, p + 1) else
  if (chkL l (d + 1) (p + 1)).1 ≠ 0 then chkL l (d + 1) (p + 1) else chkM m (d + 1) (chkL l (d + 1) (p + 1)).2
def chkL : List JV -> Nat -> Nat -> Int × Nat
 | [], _, p => (0, p)
 | t :: l, d, p => if (chkT t d p).1 ≠ 0 then chkT t d p else chkL l d (chkT t d p).2
def chkM : List (ByteArray × JV) -> Nat -> Nat -> Int × Nat
 | [], _, p => (0, p)
 | (_, t) :: m, d, p => if (chkT t d p).1 ≠ 0 then chkT t d p else chkM m d (chkT t d p).2
end
theorem chkL_step {l : List JV} {j : Nat} {t : JV} (h : l[j]? = some t) (d p : Nat) : chkL (l.drop j) d p = if (chkT t d p).1 ≠ 0 then chkT t d p else chkL (l.drop (j + 1)) d (chkT t d p).2 := by
 obtain ⟨hj, rfl⟩ := List.getElem?_eq_some_iff.1 h
 rw [List.drop_eq_getElem_cons hj]
 rfl
theorem chkM_step {m : List (ByteArray × JV)} {j : Nat} {q : ByteArray × JV} (h : m[j]? = some q) (d p : Nat) : chkM (m.drop j) d p = if (chkT q.2 d p).1 ≠ 0 then chkT q.2 d p else chkM (m.drop (j + 1)) d (chkT q.2 d p).2 := by
 obtain ⟨hj, rfl⟩ := List.getElem?_eq_some_iff.1 h
 rw [List.drop_eq_getElem_cons hj]
 rfl
mutual
theorem chkT_ok : ∀ (t : JV) (d p : Nat), (chkT t d p).1 = 0 -> (chkT t d p).2 = p + countT t /\ p + countT t <= 8192
 | .mk k n s l m, d, p, h => by
   unfold chkT at h ⊢
   unfold countT
   split at h
   ·simp at h
   rename_i h1
   rw [if_neg h1]
   split at h
   ·simp at h
   rename_i h2
   rw [if_neg h2]
   split at h
   ·simp at h
   rename_i h3
   rw [if_neg h3]
   split at h
   ·rename_i h4
    exact absurd h h4
   ·rename_i h4
    rw [if_neg h4]
    have hl := chkL_ok l (d + 1) (p + 1) (by simpa using h4) (by omega)
    have hm := chkM_ok m (d + 1) _ h (by omega)
    rw [hm.1, hl.1]
    rw [hl.1] at hm
    omega
theorem chkL_ok : ∀ (l : List JV) (d p : Nat), (chkL l d p).1 = 0 -> p <= 8192 -> (chkL l d p).2 = p + countL l /\ p + countL l <= 8192
 | [], d, p, h, hp => by simp [chkL, countL]; omega
 | t :: l, d, p, h, hp => by
   unfold chkL at h ⊢
   unfold countL
   split at h
   ·rename_i h4
    exact absurd h h4
   ·rename_i h4
    rw [if_neg h4]
    have ht := chkT_ok t d p (by simpa using h4)
    have hl := chkL_ok l d _ h (by omega)
    rw [hl.1, ht.1]
    rw [ht.1] at hl
    omega
theorem chkM_ok : ∀ (m : List (ByteArray × JV)) (d p : Nat), (chkM m d p).1 = 0 -> p <= 8192 -> (chkM m d p).2 = p + countM m /\ p + countM m <= 8192
 | [], d, p, h, hp => by simp [chkM, countM]; omega
 | (_, t) :: l, d, p, h, hp => by
   unfold chkM at h ⊢
   unfold countM
   split at h
   ·rename_i h4
    exact absurd h h4
   ·rename_i h4
    rw [if_neg h4]
    have ht := chkT_ok t d p (by simpa using h4)
    have hl := chkM_ok l d _ h (by omega)
    rw [hl.1, ht.1]
    rw [ht.1] at hl
    omega
end
theorem _root_.Go.RowKit.Below.gb {w w' : World} (h : Below w.heap.size w w') (row : Option Nat) : w.grownBy w' row := ⟨h.os, h.tape, h.output, h.size, fun k hk _ => h.block k hk⟩
def CtAt (W : World) (g p : Nat) : Prop := W.heap[g]? = some (.cells #[.int .i64 p] 127 (0, 0))
theorem CtAt.lt {W : World} {g p : Nat} (h : CtAt W g p) : g < W.heap.size := (Array.getElem?_eq_some_iff.1 h).1
theorem CtAt.cell {W : World} {g p : Nat} (h : CtAt W g p) : W.cell? ⟨g, 0, none⟩ = some (.int .i64 p) := by
 unfold CtAt at h
 rw [cell_of_row W g 0 _ _ _ h]
 rfl
theorem CtAt.frozen {W : World} {g p : Nat} (h : CtAt W g p) : W.frozen? ⟨g, 0, none⟩ = false := by
 unfold CtAt at h
 simp [World.frozen?, h]
theorem CtAt.alloc {W : World} {g p : Nat} (h : CtAt W g p) (o : Obj) : CtAt (W.alloc o) g p := (Below.heap_alloc W o g h.lt).trans h
theorem CtAt.below {W W' : World} {g p : Nat} (h : CtAt W g p) (hb : Below W.heap.size W W') : CtAt W' g p := (hb.block g h.lt).trans h
def ChkRet (w : World) (g : Nat) (r : Int × Nat) (e : Ending) (w' : World) : Prop := e = .returned (.int .i64 r.1) /\ CtAt w' g r.2 /\ w.grownBy w' (some g)
theorem VAt.kept {W W' : World} {g x : Nat} {r : RV} (h : VAt W x r) (hg : W.grownBy W' (some g)) (hne : x ≠ g) : VAt W' x r := (hg.block x h.lt (by simpa using hne)).trans h
theorem chk_any (N : Nat) : ∀ (t : JV) (r : RV) (w : World) (B g d p : Nat), SizeOf.sizeOf t <= N -> TreeOf w B t r -> t.Ok -> B <= g -> CtAt w g p -> p <= 8192 -> d <= 17 ->
 Calls Tryz.prog 74 #[.pointer (some ⟨g, 0, none⟩), r.val, .int .i64 d] w (ChkRet w g (chkT t d p)) := by
 induction N with
 | zero => intro t r w B g d p hN; cases t; simp at hN
 | succ N ih =>
   intro t r w B g d p hN ht ot hBg hc hp hd
   cases ht with
   | @mk _ l m rs rms hl el hcl hm em hcn hcm =>
   obtain ⟨k, n, s, pl, nl, cl, pm, nm, cm⟩ := r
   cases ot with
   | mk _ _ bs bl bm okl oks okm =>
   dsimp only [RV.val] at *
   have eL := rd_nlen hl
   have eM := rd_nlen hm
   have hgw := hc.lt
   have HT : Hid (∀ (i : Nat) t q, l[i]? = some t -> rs[i]? = some q -> ∀ W (d' p' : Nat), w.grownBy W (some g) -> CtAt W g p' -> p' <= 8192 -> d' <= 17 -> Calls Tryz.prog 74 #[.pointer (some ⟨g, 0, none⟩), q.val, .int .i64 d'] W (ChkRet W g (chkT t d' p'))) :=
    fun i t q h1 h2 W d' p' hb hc' hp' hd' => ih t q W B g d' p' (by have := JV.lt_l (k := k) (n := n) (s := s) (m := m) h1; omega) ((hcl i t q h1 h2).under ((Below.refl B w).grown hb (by omega) (fun a e => by cases e; exact hBg)) (Nat.le_refl _)) (okl i t h1) hBg hc' hp' hd'
   have HS : Hid (∀ (i : Nat) q x, m[i]? = some q -> rms[i]? = some x -> ∀ W (d' p' : Nat), w.grownBy W (some g) -> CtAt W g p' -> p' <= 8192 -> d' <= 17 -> Calls Tryz.prog 74 #[.pointer (some ⟨g, 0, none⟩), x.v.val, .int .i64 d'] W (ChkRet W g (chkT q.2 d' p'))) :=
    fun i q x h1 h2 W d' p' hb hc' hp' hd' => ih q.2 x.v W B g d' p' (by have := JV.lt_m (k := k) (n := n) (s := s) (l := l) h1; omega) ((hcm i q x h1 h2).under ((Below.refl B w).grown hb (by omega) (fun a e => by cases e; exact hBg)) (Nat.le_refl _)) (okm i q h1) hBg hc' hp' hd'
   have hnl : nl <= 1759218604390 := by omega
   have hnm : nm <= 1466015503658 := by omega
   have hnames : rms.map (·.name) = m.map (·.1) := by
    apply List.ext_getElem?
    intro i
    rw [List.getElem?_map, List.getElem?_map]
    cases h1 : m[i]? with
    | none =>
      have : rms[i]? = none := by rw [List.getElem?_eq_none_iff] at h1 ⊢; omega
      rw [this]; rfl
    | some a =>
      obtain ⟨b, hb⟩ : ∃ b, rms[i]? = some b := ⟨_, List.getElem?_eq_getElem (by have := (List.getElem?_eq_some_iff.1 h1).1; omega)⟩
      rw [hb]
      simp [hcn i a b h1 hb]
   have hsz : ∀ (i : Nat) q, rms[i]? = some q -> q.name.size <= maxLen := by
    intro i q hq
    obtain ⟨b, hb⟩ : ∃ b, m[i]? = some b := ⟨_, List.getElem?_eq_getElem (by have := (List.getElem?_eq_some_iff.1 hq).1; omega)⟩
    rw [<- hcn i b q hb hq]
    have := oks i b hb
    unfold maxLen; omega
   have hR : ∀ W, Below B w W -> B <= W.heap.size -> Calls Tryz.prog 113 #[.agg #[.int .i64 k, .int .i64 n, .string s, .slice pl nl cl, .slice pm nm cm]] W fun e w' => e = .returned (.bool (rightP k n s l.length (m.map (·.1)))) /\ Below W.heap.size W w' := fun W hb hz => by
    rw [<- hnames, show l.length = nl by omega]
    exact rightV_any ⟨k, n, s, pl, nl, cl, pm, nm, cm⟩ rms W (hm.below hb hz) hsz hnm (by show s.size <= _; unfold maxLen; omega)
   have HR := Lib.hid hR
   have HL := Lib.hid hl
   have HM := Lib.hid hm
   have E1 : Hid (l.length = nl /\ rs.length = nl) := ⟨by omega, by omega⟩
   have E2 : Hid (m.length = nm /\ rms.length = nm) := ⟨by omega, by omega⟩
   have hA0 : VAt (w.alloc (.cells #[.int .i64 k, .int .i64 n, .string s, .slice pl nl cl, .slice pm nm cm] 31)) w.heap.size ⟨k, n, s, pl, nl, cl, pm, nm, cm⟩ := heap_alloc_at rfl
   have hG0 : w.grownBy (w.alloc (.cells #[.int .i64 k, .int .i64 n, .string s, .slice pl nl cl, .slice pm nm cm] 31)) (some g) := World.grownBy_alloc _ _ _
   have hC0 := hc.alloc (.cells #[.int .i64 k, .int .i64 n, .string s, .slice pl nl cl, .slice pm nm cm] 31)
   clear ih hcl hcn hcm hl hm okl oks okm el em bl bm eL eM hN hR hnames hsz hc bs
   by_cases hd16 : 16 < d
   ·have HX : Hid (chkT (.mk k n s l m) d p = (51, p)) := by unfold Hid chkT; rw [if_pos hd16]
    have HC := Lib.hid hC0
    have HG := Lib.hid hG0
    clear hA0 hC0 hG0
    go_enter Tryz.func74, Tryz.ntmps74
    go_wp2_with fail
    go_ret
    exact ⟨ret_int (by rw [HX.out]), by rw [HX.out]; exact HC.out, HG.out⟩
   ·go_enter Tryz.func74, Tryz.ntmps74
    go_upto_region 3 with fail
    obtain ⟨W0, hW0⟩ : ∃ W0, (w.alloc (.cells #[.int .i64 k, .int .i64 n, .string s, .slice pl nl cl, .slice pm nm cm] 31)) = W0 := ⟨_, rfl⟩
    rw [hW0] at hA0 hG0 hC0 ⊢
    clear hW0
    have c0 := hC0.cell
    have c1 := hC0.frozen
    have hA1 : VAt (W0.setCell ⟨g, 0, none⟩ (.int .i64 ((p + 1 : Nat) : Int))) w.heap.size ⟨k, n, s, pl, nl, cl, pm, nm, cm⟩ := hA0.kept (grownBy_set W0 g 0 _) (by omega)
    have hG1 : w.grownBy (W0.setCell ⟨g, 0, none⟩ (.int .i64 ((p + 1 : Nat) : Int))) (some g) := hG0.trans (grownBy_set W0 g 0 _)
    have hC1 : CtAt (W0.setCell ⟨g, 0, none⟩ (.int .i64 ((p + 1 : Nat) : Int))) g (p + 1) := by
     have h := hC0
     unfold CtAt at h ⊢
     simp [World.setCell, Array.getElem?_modify, h]
    have hp0 : (0 : Int) <= (p : Int) := Int.natCast_nonneg _
    have hp1 : (p : Int) <= 8192 := by omega
    have hd0 : (0 : Int) <= (d : Int) := Int.natCast_nonneg _
    have hd1 : (d : Int) <= 16 := by omega
    have hw1 : W0.setCell ⟨g, 0, none⟩ (.int .i64 ((p : Int) + 1)) = W0.setCell ⟨g, 0, none⟩ (.int .i64 ((p + 1 : Nat) : Int)) := by rw [show ((p : Int) + 1) = ((p + 1 : Nat) : Int) by omega]
    go_upto_region 4 with fail
    clear hw1 c0 c1 hA0 hG0 hC0
    obtain ⟨W1, hW1⟩ : ∃ W1, W0.setCell ⟨g, 0, none⟩ (.int .i64 ((p + 1 : Nat) : Int)) = W1 := ⟨_, rfl⟩
    rw [hW1] at hA1 hG1 hC1 ⊢
    clear hW1 W0
    have c0 := hC1.cell
    have HC := Lib.hid hC1
    have HG := Lib.hid hG1
    have HA := Lib.hid hA1
    clear hC1 hG1
    by_cases hp8 : 8192 < p + 1
    ·have HX : Hid (chkT (.mk k n s l m) d p = (53, p + 1)) := by unfold Hid chkT; rw [if_neg hd16, if_pos hp8]
     have hq : decide ((8192 : Int) < ((p + 1 : Nat) : Int)) = true := by simp; omega
     clear hA1
     go_wp2_with fail
     go_ret
     exact ⟨ret_int (by rw [HX.out]), by rw [HX.out]; exact HC.out, HG.out⟩
    ·have hq : decide ((8192 : Int) < ((p + 1 : Nat) : Int)) = false := by simp; omega
     obtain ⟨a0, a1, a2, a3, a4⟩ := hA1.cells5
     dsimp only at a0 a1 a2 a3 a4
     clear hA1
     have hz := HA.out.lt
     have hBW : Below B w W1 := (Below.refl B w).grown HG.out (by omega) (fun a e => by cases e; exact hBg)
     have HR2 := Lib.hid (HR.out W1 hBW (by omega))
     have HBW := Lib.hid hBW
     clear HR hBW
     cases hr : rightP k n s l.length (m.map (·.1)) with
     | false =>
       have HX : Hid (chkT (.mk k n s l m) d p = (1, p + 1)) := by unfold Hid chkT; rw [if_neg hd16, if_neg hp8, if_pos hr]
       rw [hr] at HR2
       clear hr
       go_wp2_with (go_at_call 113; refine HR2.out.mono ?_; rintro e w1 ⟨rfl, hb1⟩)
       go_ret
       exact ⟨ret_int (by rw [HX.out]), by rw [HX.out]; exact HC.out.below hb1, HG.out.trans (hb1.gb _)⟩
     | true =>
       rw [hr] at HR2
       have HX : Hid (chkT (.mk k n s l m) d p = if (chkL l (d + 1) (p + 1)).1 ≠ 0 then chkL l (d + 1) (p + 1) else chkM m (d + 1) (chkL l (d + 1) (p + 1)).2) := by
        unfold Hid; rw [chkT, if_neg hd16, if_neg hp8, if_neg (by rw [hr]; decide)]
       clear hr
       go_upto_region 8 with (go_at_call 113; refine HR2.out.mono ?_; rintro e w1 ⟨rfl, hb1⟩)
       have HA1 := HA.out.under hb1 HA.out.lt
       have HC1 := HC.out.below hb1
       have HG1 := HG.out.trans (hb1.gb _)
       have hz1 := HG1.size
       clear HA HC HG HR2 c0 a0 a1 a2 a3 a4 hb1 HBW hz hp1 hp0
       obtain ⟨W2, hW2⟩ : ∃ W2, w1 = W2 := ⟨_, rfl⟩
       rw [hW2] at HA1 HC1 HG1 hz1 ⊢
       clear hW2 w1
       have HA := Lib.hid HA1
       have HG := Lib.hid HG1
       have hz2 := HA1.lt
       obtain ⟨a0, a1, a2, a3, a4⟩ := HA1.cells5
       dsimp only at a0 a1 a2 a3 a4
       have hp9 : p + 1 <= 8192 := by omega
       clear HA1 HG1 hp8 hd16 hp
       have HGW : Hid (B <= w.heap.size) := by unfold Hid; omega
       have HNE : Hid (w.heap.size ≠ g) := by unfold Hid; omega
       obtain ⟨R1, hR1⟩ : ∃ R, chkL l (d + 1) (p + 1) = R := ⟨_, rfl⟩
       rw [hR1] at HX
       have HR1 := Lib.hid hR1
       clear hR1
       go_wp2_with fail
       go_loopw [33] (fun i wr => ∃ (j q : Nat), j <= nl /\ i = .int .i64 j /\ q <= 8192 /\ CtAt wr g q /\ Hid (chkL (l.drop j) (d + 1) q = R1) /\ Hid (W2.grownBy wr (some g))) (fun i _ => nl - (intOf i).toNat)
       case atStart => exact ⟨0, p + 1, Nat.zero_le _, rfl, hp9, HC1, HR1, World.grownBy.refl _ _⟩
       case round =>
        obtain ⟨j, q, hj, rfl, hq8, hcr, hrr, hgr⟩ := hrel
        have hGw := HG.out.trans hgr.out
        by_cases hlt : j < nl
        ·obtain ⟨tx, htx⟩ : ∃ x, l[j]? = some x := ⟨_, List.getElem?_eq_getElem (by have := E1.out; omega)⟩
         obtain ⟨x, hx⟩ : ∃ x, rs[j]? = some x := ⟨_, List.getElem?_eq_getElem (by have := E1.out; omega)⟩
         have hbw : Below B w wr := (Below.refl B w).grown hGw HGW.out (fun a e => by cases e; exact hBg)
         obtain ⟨b1, o1, rfl, hb1, hc1⟩ := rd_at' (HL.out.below hbw (Nat.le_refl _)) hx
         have f0 := hc1 0 _ rfl
         have f1 := hc1 1 _ rfl
         have f2 := hc1 2 _ rfl
         have f3 := hc1 3 _ rfl
         have f4 := hc1 4 _ rfl
         rw [Nat.add_zero] at f0
         have hst := chkL_step htx (d + 1) q
         rw [hrr.out] at hst
         have hGx : w.grownBy (wr.alloc (.cells #[.int .i64 x.k, .int .i64 x.n, .string x.s, .slice x.pl x.nl x.cl, .slice x.pm x.nm x.cm] 31)) (some g) := hGw.trans (World.grownBy_alloc _ _ _)
         have hH := HT.out j tx x htx hx _ (d + 1) q hGx (hcr.alloc _) hq8 (by omega)
         have HG2 : Hid (W2.grownBy (wr.alloc (.cells #[.int .i64 x.k, .int .i64 x.n, .string x.s, .slice x.pl x.nl x.cl, .slice x.pm x.nm x.cm] 31)) (some g)) := hgr.out.trans (World.grownBy_alloc _ _ _)
         have hk0 : (0 : Int) <= (j : Int) := Int.natCast_nonneg _
         have hk1 : (j : Int) < (nl : Int) := by omega
         have hok := chkT_ok tx (d + 1) q
         generalize chkT tx (d + 1) q = RR at hst hH hok
         obtain ⟨ev, pv⟩ := RR
         dsimp only at hst hok
         have HH := Lib.hid hH
         clear hc1 htx hx hH hGx hbw hGw hcr hrr hgr
         by_cases hev : ev = 0
         ·have hpv : pv <= 8192 := by have := hok hev; omega
          rw [if_neg (by simpa using hev)] at hst
          have HST := Lib.hid hst
          subst hev
          clear hst hok
          go_wp2_with (go_at_call 74; refine HH.out.mono ?_; rintro e w3 ⟨rfl, hc3, hg3⟩; have HG3 := Lib.hid (HG2.out.trans hg3); clear hg3)
          go_roundw
          case rel => exact ⟨j + 1, pv, by omega, by go_num, hpv, hc3, HST.out.symm, HG3⟩
          case measure => simp [intOf]; omega
         ·rw [if_pos (by simpa using hev)] at hst
          have HST := Lib.hid hst
          have hq1 : (ev != 0) = true := by simpa using hev
          have hq2 : (ev == 0) = false := by simpa using hev
          have HXX : Hid (chkT (.mk k n s l m) d p = (ev, pv)) := by
           unfold Hid
           rw [HX.out, HST.out, if_pos (by simpa using hev)]
          clear hst hok hev
          go_wp2_with (go_at_call 74; refine HH.out.mono ?_; rintro e w3 ⟨rfl, hc3, hg3⟩; have HG3 := Lib.hid (HG2.out.trans hg3); clear hg3; have HC3 := Lib.hid hc3; clear hc3)
          go_ret
          exact ⟨ret_int (by rw [HXX.out]), by rw [HXX.out]; exact HC3.out, HG.out.trans HG3.out⟩
        ·obtain rfl : j = nl := by omega
         have hR1 : R1 = (0, q) := by
          have h := hrr.out
          rw [List.drop_of_length_le (by have := E1.out; omega)] at h
          exact h.symm
         have hXX : chkT (.mk k n s l m) d p = chkM m (d + 1) q := by
          rw [HX.out, hR1]; rfl
         clear hR1
         have c4 := (HA.out.kept hgr.out HNE.out).cell 4 rfl
         dsimp only at c4
         clear a0 a1 a2 a3 a4 HX hrr HR1
         obtain ⟨R2, hR2⟩ : ∃ R, chkM m (d + 1) q = R := ⟨_, rfl⟩
         rw [hR2] at hXX
         have HX := Lib.hid hXX
         have HR2 := Lib.hid hR2
         have HG4 := Lib.hid (HG.out.trans hgr.out)
         have hzz : w.heap.size < wr.heap.size := by have := hgr.out.size; omega
         clear hXX hR2 hGw hgr HC1 HT E1 HL
         obtain ⟨W3, hW3⟩ : ∃ W3, wr = W3 := ⟨_, rfl⟩
         rw [hW3] at c4 hcr HG4 hzz ⊢
         clear hW3 wr
         go_wp2_with fail
         go_loopw [49] (fun i wr => ∃ (j q : Nat), j <= nm /\ i = .int .i64 j /\ q <= 8192 /\ CtAt wr g q /\ Hid (chkM (m.drop j) (d + 1) q = R2) /\ Hid (W3.grownBy wr (some g))) (fun i _ => nm - (intOf i).toNat)
         case atStart => exact ⟨0, q, Nat.zero_le _, rfl, hq8, hcr, HR2, World.grownBy.refl _ _⟩
         case round =>
          obtain ⟨j, q, hj, rfl, hq8, hcr, hrr, hgr⟩ := hrel
          have hGw := HG4.out.trans hgr.out
          by_cases hlt : j < nm
          ·obtain ⟨tx, htx⟩ : ∃ x, m[j]? = some x := ⟨_, List.getElem?_eq_getElem (by have := E2.out; omega)⟩
           obtain ⟨x, hx⟩ : ∃ x, rms[j]? = some x := ⟨_, List.getElem?_eq_getElem (by have := E2.out; omega)⟩
           have hbw : Below B w wr := (Below.refl B w).grown hGw HGW.out (fun a e => by cases e; exact hBg)
           obtain ⟨b1, o1, rfl, hb1, hc1⟩ := rd_at' (HM.out.below hbw (Nat.le_refl _)) hx
           have f0 := hc1 0 _ rfl
           have f1 := hc1 1 _ rfl
           have f2 := hc1 2 _ rfl
           have f3 := hc1 3 _ rfl
           have f4 := hc1 4 _ rfl
           have f5 := hc1 5 _ rfl
           rw [Nat.add_zero] at f0
           have hst := chkM_step htx (d + 1) q
           rw [hrr.out] at hst
           have hGx : w.grownBy (wr.alloc (.cells #[.string x.name, .int .i64 x.v.k, .int .i64 x.v.n, .string x.v.s, .slice x.v.pl x.v.nl x.v.cl, .slice x.v.pm x.v.nm x.v.cm] 81)) (some g) := hGw.trans (World.grownBy_alloc _ _ _)
           have hH := HS.out j tx x htx hx _ (d + 1) q hGx (hcr.alloc _) hq8 (by omega)
           have HG2 : Hid (W3.grownBy (wr.alloc (.cells #[.string x.name, .int .i64 x.v.k, .int .i64 x.v.n, .string x.v.s, .slice x.v.pl x.v.nl x.v.cl, .slice x.v.pm x.v.nm x.v.cm] 81)) (some g)) := hgr.out.trans (World.grownBy_alloc _ _ _)
           have hk0 : (0 : Int) <= (j : Int) := Int.natCast_nonneg _
           have hk1 : (j : Int) < (nm : Int) := by omega
           have hok := chkT_ok tx.2 (d + 1) q
           generalize chkT tx.2 (d + 1) q = RR at hst hH hok
           obtain ⟨ev, pv⟩ := RR
           dsimp only at hst hok
           have HH := Lib.hid hH
           clear hc1 htx hx hH hGx hbw hGw hcr hrr hgr
           by_cases hev : ev = 0
           ·have hpv : pv <= 8192 := by have := hok hev; omega
            rw [if_neg (by simpa using hev)] at hst
            have HST := Lib.hid hst
            subst hev
            clear hst hok
            go_wp2_with (go_at_call 74; refine HH.out.mono ?_; rintro e w3 ⟨rfl, hc3, hg3⟩; have HG3 := Lib.hid (HG2.out.trans hg3); clear hg3)
            go_roundw
            case rel => exact ⟨j + 1, pv, by omega, by go_num, hpv, hc3, HST.out.symm, HG3⟩
            case measure => simp [intOf]; omega
           ·rw [if_pos (by simpa using hev)] at hst
            have HST := Lib.hid hst
            have hq1 : (ev != 0) = true := by simpa using hev
            have hq2 : (ev == 0) = false := by simpa using hev
            have HXX : Hid (chkT (.mk k n s l m) d p = (ev, pv)) := by
             unfold Hid
             rw [HX.out, HST.out]
            clear hst hok hev
            go_wp2_with (go_at_call 74; refine HH.out.mono ?_; rintro e w3 ⟨rfl, hc3, hg3⟩; have HG3 := Lib.hid (HG2.out.trans hg3); clear hg3; have HC3 := Lib.hid hc3; clear hc3)
            go_ret
            exact ⟨ret_int (by rw [HXX.out]), by rw [HXX.out]; exact HC3.out, HG4.out.trans HG3.out⟩
          ·obtain rfl : j = nm := by omega
           have HXX : Hid (chkT (.mk k n s l m) d p = (0, q)) := by
            have h := hrr.out
            rw [List.drop_of_length_le (by have := E2.out; omega)] at h
            unfold Hid
            rw [HX.out, <- h]; rfl
           have HC3 := Lib.hid hcr
           clear hcr
           go_wp2_with fail
           go_ret
           exact ⟨ret_int (by rw [HXX.out]), by rw [HXX.out]; exact HC3.out, HG4.out.trans hgr.out⟩
def checkE (t : JV) : Int := (chkT t 1 0).1
theorem check_any (t : JV) (r : RV) (w : World) (ht : TreeOf w w.heap.size t r) (ot : t.Ok) :
 Calls Tryz.prog 28 #[r.val] w fun e w' => e = .returned (.int .i64 (checkE t)) /\ Below w.heap.size w w' := by
 have HT := Lib.hid ht
 have HO := Lib.hid ot
 clear ht ot
 obtain ⟨k, n, s, pl, nl, cl, pm, nm, cm⟩ := r
 dsimp only [RV.val] at *
 have hB0 : Below w.heap.size w ((w.alloc (.cells #[.int .i64 k, .int .i64 n, .string s, .slice pl nl cl, .slice pm nm cm] 31)).alloc (.cells #[.int .i64 0] 127)) := ((Below.refl _ _).alloc (Nat.le_refl _) _).alloc (by simp) _
 have hC : CtAt ((w.alloc (.cells #[.int .i64 k, .int .i64 n, .string s, .slice pl nl cl, .slice pm nm cm] 31)).alloc (.cells #[.int .i64 0] 127)) (w.heap.size + 1) 0 := by
  have := @heap_alloc_at (w.alloc (.cells #[.int .i64 k, .int .i64 n, .string s, .slice pl nl cl, .slice pm nm cm] 31)) (.cells #[.int .i64 0] 127) _ rfl
  simpa [CtAt] using this
 have HH := Lib.hid (chk_any _ t ⟨k, n, s, pl, nl, cl, pm, nm, cm⟩ _ w.heap.size (w.heap.size + 1) 1 0 (Nat.le_refl _) (HT.out.under hB0 (Nat.le_refl _)) HO.out (by omega) hC (by omega) (by omega))
 have HB := Lib.hid hB0
 clear hC hB0
 go_enter Tryz.func28, Tryz.ntmps28
 go_wp2_with (go_at_call 74; refine HH.out.mono ?_; rintro e w3 ⟨rfl, hc3, hg3⟩)
 go_ret
 exact ⟨rfl, HB.out.grown hg3 (by simp; omega) (fun a e => by cases e; omega)⟩
end
section
open Go Go.RowKit Go.OpenShut
def escN (c : Nat) : Nat := if c = 34 \/ c = 92 then c else if c = 8 then 98 else if c = 9 then 116 else if c = 10 then 110 else if c = 12 then 102 else if c = 13 then 114 else 0
theorem escape_any (b : UInt8) (w : World) : Calls Tryz.prog 174 #[.int .u8 b.toNat] w fun e w' => e = .returned (.int .u8 (escN b.toNat : Nat)) /\ w = w' := by
 have hb : (b.toNat : Int) < 256 := by have := b.toNat_lt; omega
 have h0 : (0 : Int) <= (b.toNat : Int) := Int.natCast_nonneg _
 go_enter Tryz.func174, Tryz.ntmps174
 go_wp2_with fail
 all_goals go_ret
 all_goals refine ⟨ret_int1 ?_, rfl⟩
 all_goals unfold escN
 all_goals (repeat' split)
 all_goals first | omega | (simp only [beq_iff_eq, bne_iff_ne, Bool.not_eq_true, beq_eq_false_iff_ne] at *; omega) | trace_state
def hexD (n : Nat) : UInt8 := if n < 10 then UInt8.ofNat (48 + n) else UInt8.ofNat (87 + n)
theorem and15 {n : Nat} (h : n < 32) : bits BinOp.and IntKind.u8 (n : Int) 15 = (n : Int) % 16 :=
 (by decide +kernel : ∀ m : Fin 32, bits BinOp.and IntKind.u8 ((m.val : Nat) : Int) 15 = ((m.val : Nat) : Int) % 16) ⟨n, h⟩
theorem hex_get (n : Nat) (h : n < 16) (h' : n < (⟨#[48, 49, 50, 51, 52, 53, 54, 55, 56, 57, 97, 98, 99, 100, 101, 102]⟩ : ByteArray).size) : (⟨#[48, 49, 50, 51, 52, 53, 54, 55, 56, 57, 97, 98, 99, 100, 101, 102]⟩ : ByteArray)[n]'h' = hexD n :=
 (by decide +kernel : ∀ m : Fin 16, (⟨#[48, 49, 50, 51, 52, 53, 54, 55, 56, 57, 97, 98, 99, 100, 101, 102]⟩ : ByteArray)[m.val]'m.isLt = hexD m.val) ⟨n, h⟩
def escL (c : UInt8) : List UInt8 := if escN c.toNat ≠ 0 then [92, UInt8.ofNat (escN c.toNat)] else if c.toNat < 32 then [92, 117, 48, 48, hexD (c.toNat / 16), hexD (c.toNat % 16)] else [c]
def quoM (l : List UInt8) : List UInt8 := l.flatMap escL
def quoL (s : ByteArray) : List UInt8 := if badF s = s.size then 34 :: quoM s.data.toList ++ [34] else []
theorem escL_len (c : UInt8) : (escL c).length <= 6 := by unfold escL; split <;> (try split) <;> simp
theorem quoM_len (l : List UInt8) : (quoM l).length <= 6 * l.length := by
 induction l with
 | nil => simp [quoM]
 | cons c l ih =>
   unfold quoM at ih ⊢
   rw [List.flatMap_cons, List.length_append, List.length_cons]
   have := escL_len c
   omega
theorem quoM_take {l : List UInt8} {k : Nat} {c : UInt8} (h : l[k]? = some c) : quoM (l.take (k + 1)) = quoM (l.take k) ++ escL c := by
 unfold quoM
 rw [List.take_add_one, h]
 simp
def QuoRet (w : World) (s : ByteArray) (e : Ending) (w' : World) : Prop := e = .returned (.tuple #[.string (toB (quoL s)), .bool (decide (badF s = s.size))]) /\ Below w.heap.size w w'
theorem quote_any (s : ByteArray) (w : World) (hs : s.size <= 4398046511104) : Calls Tryz.prog 137 #[.string s] w (QuoRet w s) := by
 have hm : s.size <= maxLen := by unfold maxLen; omega
 have HB := Lib.hid (bad_any s w hm)
 have HS := Lib.hid hs
 clear hm
 by_cases hok : badF s = s.size
 ·have hne : ((badF s : Int) != (s.size : Int)) = false := by simp [hok]
  have HQ : Hid (quoL s = 34 :: quoM s.data.toList ++ [34] /\ decide (badF s = s.size) = true) := ⟨by unfold quoL; rw [if_pos hok], by simpa using hok⟩
  clear hok
  have hO0 : OwnU (w.alloc (.cells #[.int .u8 34] 5)) w.heap.size (.slice (some ⟨w.heap.size, 0, none⟩) 1 1) [34] := Own.block codecU (heap_alloc_at rfl) rfl rfl (Nat.le_refl _) (by decide)
  have hB0 : Below w.heap.size w (w.alloc (.cells #[.int .u8 34] 5)) := (Below.refl _ _).alloc (Nat.le_refl _) _
  go_enter Tryz.func137, Tryz.ntmps137
  go_upto_region 4 with (go_at_call 139; refine HB.out.mono ?_; rintro e w1 ⟨rfl, rfl⟩)
  obtain ⟨W0, hW0⟩ : ∃ W0, w.alloc (.cells #[.int .u8 34] 5) = W0 := ⟨_, rfl⟩
  rw [hW0] at hO0 hB0 ⊢
  clear hW0
  go_wp2_with fail
  go_loopw [4, 16] (fun o i wr => ∃ k : Nat, k <= s.size /\ i = .int .i64 k /\ Hid (OwnU wr w.heap.size o (34 :: quoM (s.data.toList.take k))) /\ Hid (Below w.heap.size w wr)) (fun _ i _ => s.size - (intOf i).toNat)
  case atStart => exact ⟨0, Nat.zero_le _, rfl, hO0, hB0⟩
  case round =>
   obtain ⟨k, hk, rfl, hown, hbr⟩ := hrel
   by_cases hlt : k < s.size
   ·have hget : s.data.toList[k]? = some s[k] := by rw [Array.getElem?_toList]; exact Array.getElem?_eq_getElem hlt
    obtain ⟨c, hc⟩ : ∃ c, s[k] = c := ⟨_, rfl⟩
    have hbang := get_bang s k hlt
    rw [hc] at hget hbang
    have HT := Lib.hid (quoM_take hget)
    have hk0 : (0 : Int) <= (k : Int) := Int.natCast_nonneg _
    have hk1 : (k : Int) < (s.size : Int) := by omega
    have HE := Lib.hid (escape_any c)
    clear hget
    obtain ⟨e, he⟩ : ∃ e, escN c.toNat = e := ⟨_, rfl⟩
    rw [he] at HE
    go_upto_region 10 with (go_at_call 174; refine (HE.out _).mono ?_; rintro e w1 ⟨rfl, rfl⟩)
    have hL : (34 :: quoM (s.data.toList.take k)).length <= 26388279066625 := by
     have h1 := quoM_len (s.data.toList.take k)
     have h2 : (s.data.toList.take k).length <= s.size := by rw [List.length_take]; have := str_len s; omega
     have := HS.out
     simp only [List.length_cons]
     omega
    have HL := Lib.hid hL
    have HB2 := hbr.out.size
    by_cases h0 : e = 0
    ·subst h0
     by_cases h32 : c.toNat < 32
     ·have HX : Hid (escL c = [92, 117, 48, 48, hexD (c.toNat / 16), hexD (c.toNat % 16)]) := by unfold Hid escL; rw [he, if_neg (by simp), if_pos h32]
      have h33 : ((c.toNat : Int) < 32) := by omega
      have h34 : decide ((c.toNat : Int) < 32) = true := by simp; omega
      go_upto_region 13 with fail
      have m0 : (0 : Int) <= (c.toNat : Int) % 16 := by omega
      have m1 : (c.toNat : Int) % 16 < 16 := by omega
      have m2 : (0 : Int) <= (c.toNat : Int) / 16 := by omega
      have m3 : (c.toNat : Int) / 16 < 16 := by omega
      have hbits : bits BinOp.and IntKind.u8 (c.toNat : Int) 15 = (c.toNat : Int) % 16 := and15 h32
      have hx1 : ∀ h, (⟨#[48, 49, 50, 51, 52, 53, 54, 55, 56, 57, 97, 98, 99, 100, 101, 102]⟩ : ByteArray)[((c.toNat : Int) / 16).toNat]'h = hexD (c.toNat / 16) := fun h => by
       have e : ((c.toNat : Int) / 16).toNat = c.toNat / 16 := by omega
       simp only [e]
       exact hex_get _ (by omega) _
      have hx2 : ∀ h, (⟨#[48, 49, 50, 51, 52, 53, 54, 55, 56, 57, 97, 98, 99, 100, 101, 102]⟩ : ByteArray)[((c.toNat : Int) % 16).toNat]'h = hexD (c.toNat % 16) := fun h => by
       have e : ((c.toNat : Int) % 16).toNat = c.toNat % 16 := by omega
       simp only [e]
       exact hex_get _ (by omega) _
      obtain ⟨y1, hy1⟩ : ∃ y, hexD (c.toNat / 16) = y := ⟨_, rfl⟩
      obtain ⟨y2, hy2⟩ : ∃ y, hexD (c.toNat % 16) = y := ⟨_, rfl⟩
      rw [hy1] at hx1 HX
      rw [hy2] at hx2 HX
      clear hy1 hy2
      have HO2 := Lib.hid (hown.out.alloc (.cells #[.int .u8 92, .int .u8 117, .int .u8 48, .int .u8 48, .int .u8 y1.toNat, .int .u8 y2.toNat] 5))
      have HR2 : Hid (Rd (wr.alloc (.cells #[.int .u8 92, .int .u8 117, .int .u8 48, .int .u8 48, .int .u8 y1.toNat, .int .u8 y2.toNat] 5)) (wr.alloc (.cells #[.int .u8 92, .int .u8 117, .int .u8 48, .int .u8 48, .int .u8 y1.toNat, .int .u8 y2.toNat] 5)).heap.size encU 1 (.slice (some ⟨wr.heap.size, 0, none⟩) 6 6) [92, 117, 48, 48, y1, y2]) := rd_bytes (by simp) (heap_alloc_at rfl) (by simp [cellsOf, encU]) rfl (by simp [maxLen])
      have HBW := Lib.hid (hbr.out.alloc hbr.out.size (.cells #[.int .u8 92, .int .u8 117, .int .u8 48, .int .u8 48, .int .u8 y1.toNat, .int .u8 y2.toNat] 5))
      clear hown hbr hL he h32
      go_region_held3 (fun _ => True)
       (trivial)
       ((refine step_append_rd slU codecU (wr.alloc (.cells #[.int .u8 92, .int .u8 117, .int .u8 48, .int .u8 48, .int .u8 y1.toNat, .int .u8 y2.toNat] 5)).drew (by rfl) (.tmp 38) (.tmp 45) (by rfl) (by rfl) (by rfl) HO2.out HR2.out (by have := HL.out; unfold maxLen; simp only [List.length_cons, List.length_nil] at this ⊢; omega) (by have := HL.out; simp only [List.length_cons, List.length_nil] at this ⊢; omega) (by simp; omega) ?_; intro v1 w1 ho1 hg1 hat1))
      all_goals
       go_wp2_with fail
       go_roundw
       case rel => exact ⟨k + 1, by omega, by go_num, by unfold Hid; rw [HT.out, HX.out]; exact ho1, Below.appended HBW.out.drew hg1 HO2.out (by simp; omega)⟩
       case measure => simp [intOf]; omega
     ·have HX : Hid (escL c = [c]) := by unfold Hid escL; rw [he, if_neg (by simp), if_neg h32]
      have h33 : ¬ ((c.toNat : Int) < 32) := by omega
      have h34 : decide ((c.toNat : Int) < 32) = false := by simp; omega
      have HO2 := Lib.hid (hown.out.alloc (.cells #[.int .u8 c.toNat] 5))
      have HR2 : Hid (Rd (wr.alloc (.cells #[.int .u8 c.toNat] 5)) (wr.heap.size + 1) encU 1 (.slice (some ⟨wr.heap.size, 0, none⟩) 1 1) [c]) := Rd.one codecU (heap_alloc_at rfl) rfl (by omega)
      have HBW := Lib.hid (hbr.out.alloc hbr.out.size (.cells #[.int .u8 c.toNat] 5))
      clear hown hbr hL he h32
      go_wp2_with (at_builtin; refine wpList_append_rd slU codecU _ rfl _ _ rfl rfl rfl HO2.out HR2.out (by have := HL.out; unfold maxLen; simp only [List.length_singleton]; omega) (by have := HL.out; simp only [List.length_singleton]; omega) (by simp; omega) ?_; intro v1 w1 ho1 hg1 hat1)
      go_roundw
      case rel => exact ⟨k + 1, by omega, by go_num, by unfold Hid; rw [HT.out, HX.out]; exact ho1, Below.appended HBW.out hg1 HO2.out (by simp; omega)⟩
      case measure => simp [intOf]; omega
    ·have he256 : e < 256 := by rw [<- he]; unfold escN; have := c.toNat_lt; repeat' split
                                all_goals omega
     have HX : Hid (escL c = [92, UInt8.ofNat e]) := by unfold Hid escL; rw [he, if_pos h0]
     have hz : ((e : Int) != 0) = true := by simpa using h0
     have hee : ((UInt8.ofNat e).toNat : Int) = (e : Int) := by simp; omega
     have HO2 := Lib.hid (hown.out.alloc (.cells #[.int .u8 92, .int .u8 e] 5))
     have HR2 : Hid (Rd (wr.alloc (.cells #[.int .u8 92, .int .u8 e] 5)) (wr.alloc (.cells #[.int .u8 92, .int .u8 e] 5)).heap.size encU 1 (.slice (some ⟨wr.heap.size, 0, none⟩) 2 2) [92, UInt8.ofNat e]) := rd_bytes (by simp) (heap_alloc_at rfl) (by simp [cellsOf, encU]; omega) rfl (by simp [maxLen])
     have HBW := Lib.hid (hbr.out.alloc hbr.out.size (.cells #[.int .u8 92, .int .u8 e] 5))
     clear hown hbr hL he h0 he256 hee
     go_wp2_with (at_builtin; refine wpList_append_rd slU codecU _ rfl _ _ rfl rfl rfl HO2.out HR2.out (by have := HL.out; unfold maxLen; simp only [List.length_cons, List.length_nil] at this ⊢; omega) (by have := HL.out; simp only [List.length_cons, List.length_nil] at this ⊢; omega) (by simp; omega) ?_; intro v1 w1 ho1 hg1 hat1)
     go_roundw
     case rel => exact ⟨k + 1, by omega, by go_num, by unfold Hid; rw [HT.out, HX.out]; exact ho1, Below.appended HBW.out hg1 HO2.out (by simp; omega)⟩
     case measure => simp [intOf]; omega
   ·obtain rfl : k = s.size := by omega
    have hta : s.data.toList.take s.size = s.data.toList := List.take_of_length_le (by rw [str_len]; omega)
    rw [hta] at hown
    have hL : (34 :: quoM s.data.toList).length <= 26388279066625 := by
     have h1 := quoM_len s.data.toList
     have h2 := str_len s
     have := HS.out
     simp only [List.length_cons]
     omega
    have HL := Lib.hid hL
    have HB2 := hbr.out.size
    have HO2 := Lib.hid (hown.out.alloc (.cells #[.int .u8 34] 5))
    have HR2 : Hid (Rd (wr.alloc (.cells #[.int .u8 34] 5)) (wr.heap.size + 1) encU 1 (.slice (some ⟨wr.heap.size, 0, none⟩) 1 1) [34]) := Rd.one codecU (heap_alloc_at rfl) rfl (by omega)
    have HBW := Lib.hid (hbr.out.alloc hbr.out.size (.cells #[.int .u8 34] 5))
    clear hown hbr hL hta
    go_wp2_with (at_builtin; refine wpList_append_rd slU codecU _ rfl _ _ rfl rfl rfl HO2.out HR2.out (by have := HL.out; unfold maxLen; simp only [List.length_singleton]; omega) (by have := HL.out; simp only [List.length_singleton]; omega) (by simp; omega) ?_; intro v1 w1 ho1 hg1 hat1; have hcv := str_of_own ho1)
    go_ret2
    exact ⟨by rw [HQ.out.1, HQ.out.2]; rfl, Below.appended HBW.out hg1 HO2.out (by simp; omega)⟩
 ·have hne : ((badF s : Int) != (s.size : Int)) = true := by simp; omega
  have HQ : Hid (quoL s = [] /\ decide (badF s = s.size) = false) := ⟨by unfold quoL; rw [if_neg hok], by simpa using hok⟩
  clear hok
  go_enter Tryz.func137, Tryz.ntmps137
  go_wp2_with (go_at_call 139; refine HB.out.mono ?_; rintro e w1 ⟨rfl, rfl⟩)
  go_ret2
  exact ⟨by rw [HQ.out.1, HQ.out.2]; rfl, Below.refl _ _⟩
def natD (n : Nat) : List UInt8 := if n < 10 then [UInt8.ofNat (48 + n)] else natD (n / 10) ++ [UInt8.ofNat (48 + n % 10)]
termination_by n
decreasing_by omega
theorem natD_low {n : Nat} (h : n / 10 = 0) : natD n = [UInt8.ofNat (48 + n % 10)] := by
 rw [natD, if_pos (by omega), Nat.mod_eq_of_lt (by omega)]
theorem natD_high {n : Nat} (h : n / 10 ≠ 0) : natD n = natD (n / 10) ++ [UInt8.ofNat (48 + n % 10)] := by
 rw [natD, if_neg (by omega)]
theorem natD_len : ∀ (k n : Nat), n < 10 ^ (k + 1) -> (natD n).length <= k + 1
 | 0, n, h => by rw [natD, if_pos (by simpa using h)]; simp
 | k + 1, n, h => by
   by_cases h0 : n / 10 = 0
   ·rw [natD_low h0]; simp
   ·rw [natD_high h0, List.length_append, List.length_singleton]
    have := natD_len k (n / 10) (by rw [Nat.div_lt_iff_lt_mul (by decide)]; rw [Nat.pow_succ] at h; omega)
    omega
def numL (n : Int) : List UInt8 := (if n < 0 then [45] else []) ++ natD n.natAbs
theorem natD_19 {n : Int} (h : (Lit.int .i64 n).wf = true) : (natD n.natAbs).length <= 19 := by
 have := bounds_i64 h
 exact natD_len 18 _ (by omega)
theorem numL_len {n : Int} (h : (Lit.int .i64 n).wf = true) : (numL n).length <= 20 := by
 unfold numL
 have := natD_19 h
 split <;> simp <;> omega
theorem digit_any (d : Int) (h1 : -9 <= d) (h2 : d <= 9) (w : World) : Calls Tryz.prog 91 #[.int .i64 d] w fun e w' => e = .returned (.int .u8 (48 + d.natAbs : Nat)) /\ w = w' := by
 by_cases h : d < 0
 ·have hw : IntKind.u8.wrap (48 - d) = 48 - d := by simp [IntKind.wrap, go_sem]; omega
  go_enter Tryz.func91, Tryz.ntmps91
  go_wp2_with fail
  go_ret
  exact ⟨ret_int1 (by omega), rfl⟩
 ·have hw : IntKind.u8.wrap (48 + d) = 48 + d := by simp [IntKind.wrap, go_sem]; omega
  go_enter Tryz.func91, Tryz.ntmps91
  go_wp2_with fail
  go_ret
  exact ⟨ret_int1 (by omega), rfl⟩
def NumAt (W : World) (g : Nat) (l : List UInt8) : Prop := ∃ cs : List Value, W.heap[g]? = some (.cells cs.toArray 151 (0, 0)) /\ cs.length = 20 /\ l.length <= 20 /\ cs.drop (20 - l.length) = cellsOf encU l
theorem NumAt.frozen {W : World} {g : Nat} {l : List UInt8} (h : NumAt W g l) (q : Nat) : W.frozen? ⟨g, q, none⟩ = false := by
 obtain ⟨cs, h1, _⟩ := h
 simp [World.frozen?, h1]
theorem NumAt.cell {W : World} {g : Nat} {l : List UInt8} (h : NumAt W g l) {q : Nat} (hq : q < 20) : ∃ v, W.cell? ⟨g, q, none⟩ = some v := by
 obtain ⟨cs, h1, h2, _⟩ := h
 rw [cell_of_row W g q _ _ _ h1]
 exact ⟨cs[q], by simp⟩
theorem NumAt.store {W : World} {g : Nat} {l : List UInt8} (h : NumAt W g l) {q : Nat} (hq : l.length + q + 1 = 20) (c : UInt8) : NumAt (W.setCell ⟨g, q, none⟩ (.int .u8 c.toNat)) g (c :: l) := by
 obtain ⟨cs, h1, h2, h3, h4⟩ := h
 refine ⟨cs.set q (.int .u8 c.toNat), ?_, by simpa using h2, by simp; omega, ?_⟩
 ·simp [World.setCell, Array.getElem?_modify, h1]
 ·have e1 : 20 - (c :: l).length = q := by simp; omega
  have e2 : 20 - l.length = q + 1 := by omega
  rw [e1]
  rw [e2] at h4
  rw [List.drop_eq_getElem_cons (by simp; omega), List.drop_set_of_lt (by omega), h4]
  simp [cellsOf, encU]
theorem NumAt.str {W : World} {g : Nat} {l : List UInt8} (h : NumAt W g l) {p n : Nat} (hp : l.length + p = 20) (hn : n = l.length) (c : Nat) : (convert 95 9 (.slice (some ⟨g, p, none⟩) n c)).run Tryz.prog W = .ok (.string (toB l)) W := by
 subst hn
 obtain ⟨cs, h1, h2, h3, h4⟩ := h
 refine run_convert_bytes_back W _ _ _ _ c l Tryz.underlying95 Tryz.underlying5 Tryz.underlying9 (fun j hj => ?_)
 have e : (⟨g, p, none⟩ : Addr).add j = ⟨g, p + j, none⟩ := by simp [Addr.add]
 rw [e, cell_of_row W g (p + j) _ _ _ h1]
 have e2 : 20 - l.length = p := by omega
 rw [e2] at h4
 have h5 := congrArg (fun x => x[j]?) h4
 simp only [List.getElem?_drop] at h5
 rw [<- Array.getElem?_toList]
 simp only [h5]
 rw [cells_bytes, List.getElem?_map, List.getElem?_eq_getElem hj]
 rfl
theorem slice20 (W : World) (g q : Nat) (hq : q < 20) : (Instr.sliceAt 151 (.pointer (some ⟨g, 0, none⟩)) (some (.int .i64 (q : Int))) none none).run Tryz.prog W = .ok (.slice (some ⟨g, q, none⟩) (20 - q) (20 - q)) W := by
 have hal : Tryz.prog.arrayLen 151 = 20 := by kernel_rfl
 have hel : Tryz.prog.elem 151 = 5 := by kernel_rfl
 have hty : Tryz.prog.underlying 151 = some (.array (Tryz.prog.arrayLen 151) (Tryz.prog.elem 151)) := by kernel_rfl
 have hsz : ∀ w : World, (Go.sizeOf 5).run Tryz.prog w = .ok 1 w := fun w => by
  obtain ⟨i, hi, hz, hs1, hby⟩ := info_parts infoU
  simp [Go.sizeOf, typeInfo, hi, hs1]
 rw [run_sliceAt_array_l (P := Tryz.prog) W 151 ⟨g, 0, none⟩ hty .i64 (q : Int) (by omega) (by rw [hal]; omega), hel, hsz]
 simp only [Result.andThen_ok, hal, slicedAt, Int.toNat_natCast, Nat.mul_one]
 rw [if_neg (by omega)]
 simp [Addr.add]
 try omega
def PutRet (w : World) (n : Int) (e : Ending) (w' : World) : Prop := e = .returned (.string (toB (numL n))) /\ Below w.heap.size w w'
theorem put_any3 (n : Int) (w : World) (hn : (Lit.int .i64 n).wf = true) : Calls Tryz.prog 53 #[.int .i64 n] w (PutRet w n) := by
 have h19 := natD_19 hn
 have hbd := bounds_i64 hn
 have hN0 : NumAt (w.alloc (.cells #[.int .u8 0, .int .u8 0, .int .u8 0, .int .u8 0, .int .u8 0, .int .u8 0, .int .u8 0, .int .u8 0, .int .u8 0, .int .u8 0, .int .u8 0, .int .u8 0, .int .u8 0, .int .u8 0, .int .u8 0, .int .u8 0, .int .u8 0, .int .u8 0, .int .u8 0, .int .u8 0] 151)) w.heap.size [] :=
  ⟨[.int .u8 0, .int .u8 0, .int .u8 0, .int .u8 0, .int .u8 0, .int .u8 0, .int .u8 0, .int .u8 0, .int .u8 0, .int .u8 0, .int .u8 0, .int .u8 0, .int .u8 0, .int .u8 0, .int .u8 0, .int .u8 0, .int .u8 0, .int .u8 0, .int .u8 0, .int .u8 0], heap_alloc_at rfl, rfl, by simp, rfl⟩
 have hB0 : Below w.heap.size w (w.alloc (.cells #[.int .u8 0, .int .u8 0, .int .u8 0, .int .u8 0, .int .u8 0, .int .u8 0, .int .u8 0, .int .u8 0, .int .u8 0, .int .u8 0, .int .u8 0, .int .u8 0, .int .u8 0, .int .u8 0, .int .u8 0, .int .u8 0, .int .u8 0, .int .u8 0, .int .u8 0, .int .u8 0] 151)) := (Below.refl _ _).alloc (Nat.le_refl _) _
 have H19 := Lib.hid h19
 have HN0 := Lib.hid hN0
 have HB0 := Lib.hid hB0
 clear h19 hN0 hB0 hn
 go_enter Tryz.func53, Tryz.ntmps53
 go_upto_region 3 with fail
 obtain ⟨W0, hW0⟩ : ∃ W0, (w.alloc (.cells #[.int .u8 0, .int .u8 0, .int .u8 0, .int .u8 0, .int .u8 0, .int .u8 0, .int .u8 0, .int .u8 0, .int .u8 0, .int .u8 0, .int .u8 0, .int .u8 0, .int .u8 0, .int .u8 0, .int .u8 0, .int .u8 0, .int .u8 0, .int .u8 0, .int .u8 0, .int .u8 0] 151)) = W0 := ⟨_, rfl⟩
 rw [hW0] at HN0 HB0 ⊢
 clear hW0
 go_wp2_with fail
 go_loopw [4, 5] (fun a r wr => ∃ (q : Nat) (m : Int) (l : List UInt8), l.length + q + 1 = 20 /\ a = .int .i64 ((q : Int) + 1) /\ r = .int .i64 m /\ -9223372036854775808 <= m /\ m <= 9223372036854775807 /\ Hid (natD n.natAbs = natD m.natAbs ++ l) /\ Hid (NumAt wr w.heap.size l) /\ Hid (Below w.heap.size w wr)) (fun _ r _ => (intOf r).natAbs)
 case atStart => exact ⟨19, n, [], rfl, rfl, rfl, hbd.1, hbd.2, by simp [Hid], HN0.out, HB0.out⟩
 case round =>
  obtain ⟨q, m, l, hq, rfl, rfl, hm1, hm2, hd, hna, hbr⟩ := hrel
  have hq0 : (0 : Int) <= (q : Int) := Int.natCast_nonneg _
  have hq20 : (q : Int) < 20 := by omega
  have hqn : q < 20 := by omega
  have hw1 : IntKind.i64.wrap ((q : Int) + 1 - 1) = (q : Int) := by rw [IntKind.wrap_i64]; omega
  have hta : (m.tmod 10).natAbs = m.natAbs % 10 := Int.natAbs_tmod m 10
  have htd : (m.tdiv 10).natAbs = m.natAbs / 10 := Int.natAbs_tdiv m 10
  have hdg : Hid (∀ w : World, Calls Tryz.prog 91 #[.int .i64 (m.tmod 10)] w fun e w' => e = .returned (.int .u8 (48 + (m.tmod 10).natAbs : Nat)) /\ w = w') := fun w => digit_any (m.tmod 10) (by omega) (by omega) w
  obtain ⟨v0, hv0⟩ := hna.out.cell hqn
  have hf0 := hna.out.frozen q
  have hc8 : ((UInt8.ofNat (48 + m.natAbs % 10)).toNat : Int) = 48 + (m.natAbs : Int) % 10 := by simp; omega
  have hst := hna.out.store hq (UInt8.ofNat (48 + m.natAbs % 10))
  rw [hc8] at hst
  have HST := Lib.hid hst
  have HBW := Lib.hid (hbr.out.setCell (p := ⟨w.heap.size, q, none⟩) (Nat.le_refl _) (.int .u8 (48 + (m.natAbs : Int) % 10)))
  clear hst hc8
  go_upto_region 7 with (go_at_call 91; refine (hdg.out _).mono ?_; rintro e w1 ⟨rfl, rfl⟩)
  obtain ⟨W1, hW1⟩ : ∃ W1, (wr.setCell ⟨w.heap.size, q, none⟩ (.int .u8 (48 + (m.natAbs : Int) % 10))) = W1 := ⟨_, rfl⟩
  rw [hW1] at HST HBW ⊢
  clear hW1 hv0 hf0 hna hbr hdg hw1
  have hw2 : IntKind.i64.wrap (m.tdiv 10) = m.tdiv 10 := by rw [IntKind.wrap_i64] <;> omega
  by_cases h0 : m.natAbs / 10 = 0
  ·have hz : (m.tdiv 10 == 0) = true := by simp; omega
   have HD : Hid (natD n.natAbs = UInt8.ofNat (48 + m.natAbs % 10) :: l) := by have := hd.out; rw [natD_low h0] at this; exact this
   have h19 := H19.out
   rw [HD.out] at h19
   simp only [List.length_cons] at h19
   obtain ⟨c1, hc1⟩ : ∃ c, UInt8.ofNat (48 + m.natAbs % 10) = c := ⟨_, rfl⟩
   rw [hc1] at HD HST
   clear hd h0 hta htd hc1
   by_cases hneg : n < 0
   ·have hgn : ((45 : UInt8).toNat : Int) = 45 := rfl
    obtain ⟨q, rfl⟩ : ∃ q', q = q' + 1 := ⟨q - 1, by omega⟩
    have hw3 : IntKind.i64.wrap ((q : Int) + 1 - 1) = (q : Int) := by rw [IntKind.wrap_i64]; omega
    have hw4 : (q : Int) + 1 - 1 = (q : Int) := by omega
    have hqq : (q : Int) < 20 := by omega
    have hqq0 : (0 : Int) <= (q : Int) := Int.natCast_nonneg _
    obtain ⟨v1, hv1⟩ := HST.out.cell (q := q) (by omega)
    have hf1 := HST.out.frozen q
    have HS2 : Hid (NumAt (W1.setCell ⟨w.heap.size, q, none⟩ (.int .u8 45)) w.heap.size (45 :: c1 :: l)) := HST.out.store (q := q) (by simp; omega) 45
    have HB2 : Hid (Below w.heap.size w (W1.setCell ⟨w.heap.size, q, none⟩ (.int .u8 45))) := HBW.out.setCell (p := ⟨w.heap.size, q, none⟩) (Nat.le_refl _) _
    have hcv := HS2.out.str (p := q) (n := 20 - q) (by simp; omega) (by simp; omega) (20 - q)
    have HP : Hid (numL n = 45 :: c1 :: l) := by unfold Hid numL; rw [if_pos hneg, HD.out]; rfl
    have hq3 : (20 : Int) - (q : Int) = ((20 - q : Nat) : Int) := by omega
    have hsl := slice20 (W1.setCell ⟨w.heap.size, q, none⟩ (.int .u8 45)) w.heap.size q (by omega)
    push_cast
    go_wp2_with fail
    go_ret
    exact ⟨by rw [HP.out]; rfl, HB2.out⟩
   ·have hcv := HST.out.str (p := q) (n := 20 - q) (by simp; omega) (by simp; omega) (20 - q)
    have HP : Hid (numL n = c1 :: l) := by unfold Hid numL; rw [if_neg hneg, HD.out]; rfl
    have hsl := slice20 W1 w.heap.size q hqn
    go_wp2_with fail
    go_ret
    exact ⟨by rw [HP.out]; rfl, HBW.out⟩
  ·have hz : (m.tdiv 10 == 0) = false := by simp; omega
   have HD : Hid (natD n.natAbs = natD (m.tdiv 10).natAbs ++ (UInt8.ofNat (48 + m.natAbs % 10) :: l)) := by have := hd.out; rw [natD_high h0] at this; unfold Hid; rw [htd, this]; simp
   have h19 := H19.out
   rw [HD.out] at h19
   simp only [List.length_append, List.length_cons] at h19
   have hln : 1 <= (natD (m.tdiv 10).natAbs).length := by rw [natD]; split <;> simp
   obtain ⟨q, rfl⟩ : ∃ q', q = q' + 1 := ⟨q - 1, by omega⟩
   have hk1 : -9223372036854775808 <= m.tdiv 10 := by omega
   have hk2 : m.tdiv 10 <= 9223372036854775807 := by omega
   clear hd
   go_wp2_with fail
   go_roundw
   case rel => exact ⟨q, m.tdiv 10, _, by simp; omega, by push_cast; rfl, rfl, hk1, hk2, HD, HST, HBW⟩
   case measure => (have : (m.tdiv 10).natAbs < m.natAbs := by omega); exact this
def safeN : Int := 9007199254740991
def stateB (card : Bool) (n : Int) : ByteArray := if decide (0 <= n) && decide (n <= safeN) then toB ((if card then 99 else 98) :: numL n) else ⟨#[]⟩
def kindI (card : Bool) : Int := if card then 1 else 2
theorem letterI_any (card : Bool) (w : World) : Calls Tryz.prog 52 #[.int .i64 (kindI card)] w fun e w' => e = .returned (.tuple #[.int .u8 (if card then 67 else 66), .int .u8 (if card then 99 else 98)]) /\ w' = w := by
 cases card
 ·show Calls Tryz.prog 52 #[.int .i64 2] w _
  go_enter Tryz.func52, Tryz.ntmps52
  go_wp2_with fail
  go_ret2
  exact ⟨rfl, rfl⟩
 ·show Calls Tryz.prog 52 #[.int .i64 1] w _
  go_enter Tryz.func52, Tryz.ntmps52
  go_wp2_with fail
  go_ret2
  exact ⟨rfl, rfl⟩
theorem mayI_any (card : Bool) (n : Int) (w : World) : Calls Tryz.prog 51 #[.int .i64 (kindI card), .int .i64 n] w fun e w' => e = .returned (.bool (decide (0 <= n) && decide (n <= safeN))) /\ w' = w := by
 have HL : Hid (∀ W, Calls Tryz.prog 52 #[.int .i64 (kindI card)] W fun e w' => e = .returned (.tuple #[.int .u8 (if card then 67 else 66), .int .u8 (if card then 99 else 98)]) /\ w' = W) := fun W => letterI_any card W
 obtain ⟨k, hk⟩ : ∃ k, kindI card = k := ⟨_, rfl⟩
 rw [hk] at HL ⊢
 clear hk
 unfold safeN
 by_cases h0 : 0 <= n <;> by_cases h1 : n <= 9007199254740991 <;> cases card
 all_goals
  simp only [Bool.false_eq_true, if_false, if_true] at HL
  first
   | (have q0 : decide (0 <= n) = true := decide_eq_true h0)
   | (have q0 : decide (0 <= n) = false := decide_eq_false h0)
  first
   | (have q1 : decide (n <= 9007199254740991) = true := decide_eq_true h1)
   | (have q1 : decide (n <= 9007199254740991) = false := decide_eq_false h1)
  rw [q0, q1]
  go_enter Tryz.func51, Tryz.ntmps51
  go_wp2_with (go_at_call 52; refine (HL.out _).mono ?_; rintro e w1 ⟨rfl, rfl⟩)
  go_ret
  exact ⟨ret_boolI (by simp), rfl⟩
theorem str_oneB (W : World) (b : Nat) (x : UInt8) (h : W.cell? ⟨b, 0, none⟩ = some (.int .u8 x.toNat)) : (convert 95 9 (.slice (some ⟨b, 0, none⟩) 1 1)).run Tryz.prog W = .ok (.string (toB [x])) W := by
 refine run_convert_bytes_back W _ _ _ _ 1 [x] Tryz.underlying95 Tryz.underlying5 Tryz.underlying9 (fun j hj => ?_)
 have : j = 0 := by simp at hj; omega
 subst this
 rw [add_eq]
 exact h
theorem toB_app (a b : List UInt8) : toB a ++ toB b = toB (a ++ b) := by
 apply ByteArray.ext
 simp [toB]
theorem stateI_any (card : Bool) (n : Int) (w : World) (hn : (Lit.int .i64 n).wf = true) : Calls Tryz.prog 13 #[.int .i64 (kindI card), .int .i64 n] w fun e w' => e = .returned (.string (stateB card n)) /\ Below w.heap.size w w' := by
 have HM : Hid (∀ W, Calls Tryz.prog 51 #[.int .i64 (kindI card), .int .i64 n] W fun e w' => e = .returned (.bool (decide (0 <= n) && decide (n <= safeN))) /\ w' = W) := fun W => mayI_any card n W
 have HL : Hid (∀ W, Calls Tryz.prog 52 #[.int .i64 (kindI card)] W fun e w' => e = .returned (.tuple #[.int .u8 (if card then 67 else 66), .int .u8 (if card then 99 else 98)]) /\ w' = W) := fun W => letterI_any card W
 have HP : Hid (∀ W, Calls Tryz.prog 53 #[.int .i64 n] W (PutRet W n)) := fun W => put_any3 n W hn
 unfold stateB
 obtain ⟨k, hk⟩ : ∃ k, kindI card = k := ⟨_, rfl⟩
 obtain ⟨b, hb⟩ : ∃ b, (decide (0 <= n) && decide (n <= safeN)) = b := ⟨_, rfl⟩
 rw [hk, hb] at HM
 rw [hk] at HL
 rw [hb, hk]
 clear hk hb
 cases b
 ·go_enter Tryz.func13, Tryz.ntmps13
  go_wp2_with (go_at_call 51; refine (HM.out _).mono ?_; rintro e w1 ⟨rfl, rfl⟩)
  go_ret
  exact ⟨rfl, Below.refl _ _⟩
 ·have HX : Hid (∀ c : UInt8, toB (c :: numL n) = toB [c] ++ toB (numL n)) := fun c => by rw [toB_app]; rfl
  have hXs : (toB (numL n)).size <= 20 := by rw [toB_size]; exact numL_len hn
  have HPX : Hid (∀ W, Calls Tryz.prog 53 #[.int .i64 n] W fun e w' => e = .returned (.string (toB (numL n))) /\ Below W.heap.size W w') := HP
  obtain ⟨X, hX⟩ : ∃ X, toB (numL n) = X := ⟨_, rfl⟩
  rw [hX] at hXs HPX
  have HX : Hid (∀ c : UInt8, toB (c :: numL n) = toB [c] ++ X) := fun c => by rw [HX.out, hX]
  clear hX HP
  cases card
  ·simp only [Bool.false_eq_true, if_false, if_true] at HL ⊢
   rw [HX.out]
   have hcv : ∀ W b, W.cell? ⟨b, 0, none⟩ = some (.int .u8 98) -> (convert 95 9 (.slice (some ⟨b, 0, none⟩) 1 1)).run Tryz.prog W = .ok (.string (toB [98])) W := fun W b h => str_oneB W b 98 h
   have h1s : (toB [98]).size = 1 := rfl
   obtain ⟨Y, hY⟩ : ∃ Y, toB [98] = Y := ⟨_, rfl⟩
   rw [hY] at hcv h1s ⊢
   have hys : Y.size + X.size <= 21 := by omega
   have hys1 : Y.size <= 1 := by omega
   have hys2 : ¬ (281474976710656 < Y.size + X.size) := by omega
   clear hY h1s
   go_enter Tryz.func13, Tryz.ntmps13
   go_wp2_with (first
    | (go_at_call 51; refine (HM.out _).mono ?_; rintro e w1 ⟨rfl, rfl⟩)
    | (go_at_call 52; refine (HL.out _).mono ?_; rintro e w1 ⟨rfl, rfl⟩))
   have hcell : (w1.alloc (.cells #[.int .u8 98] 5)).drew.cell? ⟨w1.heap.size, 0, none⟩ = some (.int .u8 98) := by show (w1.alloc (.cells #[.int .u8 98] 5)).cell? _ = _; rw [cell_of_row (w1.alloc (.cells #[.int .u8 98] 5)) w1.heap.size 0 _ _ _ (heap_alloc_at rfl)]; rfl
   have HPA : Hid (Calls Tryz.prog 53 #[.int .i64 n] (w1.alloc (.cells #[.int .u8 98] 5)).drew fun e w' => e = .returned (.string X) /\ Below w1.heap.size w1 w' /\ (convert 95 9 (.slice (some ⟨w1.heap.size, 0, none⟩) 1 1)).run Tryz.prog w' = .ok (.string Y) w') :=
    (HPX.out _).mono (fun e w' h => ⟨h.1, ((Below.refl _ _).alloc (Nat.le_refl _) (.cells #[.int .u8 98] 5)).drew.trans (h.2.mono (by show w1.heap.size <= (w1.alloc _).heap.size; simp)), hcv w' _ (bcs h.2 (by show w1.heap.size < (w1.alloc _).heap.size; simp) hcell)⟩)
   clear hcell
   have HPB : Hid (∀ W, Below w1.heap.size w1 W -> Calls Tryz.prog 53 #[.int .i64 n] W fun e w' => e = .returned (.string X) /\ Below w1.heap.size w1 w') := fun W hb => (HPX.out W).mono (fun e w' h => ⟨h.1, hb.trans (h.2.mono hb.size)⟩)
   go_region_with
    (first
     | (go_at_call 53; ((with_reducible refine HPA.out.mono ?_); rintro e w3 ⟨rfl, hb3, hcx⟩))
     | (go_at_call 53; refine (HPB.out _ (by first | exact (Below.refl _ _).drew | exact ((Below.refl _ _).alloc (Nat.le_refl _) _).drew)).mono ?_; rintro e w3 ⟨rfl, hb3⟩)
     | fail)
   all_goals
    go_wp2_with fail
    go_ret
    first
     | exact ⟨rfl, hb3⟩
     | exact ⟨rfl, hb3.alloc hb3.size _⟩
     | exact ⟨rfl, hb3.drew.alloc hb3.size _⟩
     | exact ⟨rfl, (hb3.alloc hb3.size _).drew⟩
  ·simp only [Bool.false_eq_true, if_false, if_true] at HL ⊢
   rw [HX.out]
   have hcv : ∀ W b, W.cell? ⟨b, 0, none⟩ = some (.int .u8 99) -> (convert 95 9 (.slice (some ⟨b, 0, none⟩) 1 1)).run Tryz.prog W = .ok (.string (toB [99])) W := fun W b h => str_oneB W b 99 h
   have h1s : (toB [99]).size = 1 := rfl
   obtain ⟨Y, hY⟩ : ∃ Y, toB [99] = Y := ⟨_, rfl⟩
   rw [hY] at hcv h1s ⊢
   have hys : Y.size + X.size <= 21 := by omega
   have hys1 : Y.size <= 1 := by omega
   have hys2 : ¬ (281474976710656 < Y.size + X.size) := by omega
   clear hY h1s
   go_enter Tryz.func13, Tryz.ntmps13
   go_wp2_with (first
    | (go_at_call 51; refine (HM.out _).mono ?_; rintro e w1 ⟨rfl, rfl⟩)
    | (go_at_call 52; refine (HL.out _).mono ?_; rintro e w1 ⟨rfl, rfl⟩))
   have hcell : (w1.alloc (.cells #[.int .u8 99] 5)).drew.cell? ⟨w1.heap.size, 0, none⟩ = some (.int .u8 99) := by show (w1.alloc (.cells #[.int .u8 99] 5)).cell? _ = _; rw [cell_of_row (w1.alloc (.cells #[.int .u8 99] 5)) w1.heap.size 0 _ _ _ (heap_alloc_at rfl)]; rfl
   have HPA : Hid (Calls Tryz.prog 53 #[.int .i64 n] (w1.alloc (.cells #[.int .u8 99] 5)).drew fun e w' => e = .returned (.string X) /\ Below w1.heap.size w1 w' /\ (convert 95 9 (.slice (some ⟨w1.heap.size, 0, none⟩) 1 1)).run Tryz.prog w' = .ok (.string Y) w') :=
    (HPX.out _).mono (fun e w' h => ⟨h.1, ((Below.refl _ _).alloc (Nat.le_refl _) (.cells #[.int .u8 99] 5)).drew.trans (h.2.mono (by show w1.heap.size <= (w1.alloc _).heap.size; simp)), hcv w' _ (bcs h.2 (by show w1.heap.size < (w1.alloc _).heap.size; simp) hcell)⟩)
   clear hcell
   have HPB : Hid (∀ W, Below w1.heap.size w1 W -> Calls Tryz.prog 53 #[.int .i64 n] W fun e w' => e = .returned (.string X) /\ Below w1.heap.size w1 w') := fun W hb => (HPX.out W).mono (fun e w' h => ⟨h.1, hb.trans (h.2.mono hb.size)⟩)
   go_region_with
    (first
     | (go_at_call 53; ((with_reducible refine HPA.out.mono ?_); rintro e w3 ⟨rfl, hb3, hcx⟩))
     | (go_at_call 53; refine (HPB.out _ (by first | exact (Below.refl _ _).drew | exact ((Below.refl _ _).alloc (Nat.le_refl _) _).drew)).mono ?_; rintro e w3 ⟨rfl, hb3⟩)
     | fail)
   all_goals
    go_wp2_with fail
    go_ret
    first
     | exact ⟨rfl, hb3⟩
     | exact ⟨rfl, hb3.alloc hb3.size _⟩
     | exact ⟨rfl, hb3.drew.alloc hb3.size _⟩
     | exact ⟨rfl, (hb3.alloc hb3.size _).drew⟩
theorem okCh_iff {c : UInt8} (h : okCh c = true) : 32 <= c.toNat /\ c.toNat < 128 /\ c.toNat ≠ 34 /\ c.toNat ≠ 92 := by
 unfold okCh at h
 simp only [Bool.and_eq_true, decide_eq_true_eq] at h
 exact ⟨h.1.1.1, h.1.1.2, h.1.2, h.2⟩
theorem one_ascii {s : ByteArray} {i : Nat} (hi : i < s.size) (h : s[i]!.toNat < 128) : (oneU s i).2 = 1 := by
 rw [get_bang s i hi] at h
 have hz : szN s[i].toNat = 1 := by unfold szN; rw [if_pos h]
 rw [oneU_at hi, hz, if_neg (by omega)]
 rfl
theorem cut_step {s : ByteArray} {a k : Nat} (h1 : a <= k) (h2 : k < s.size) : (s.data.toList.drop a).take (k + 1 - a) = (s.data.toList.drop a).take (k - a) ++ [s[k]!] := by
 rw [show k + 1 - a = (k - a) + 1 by omega, List.take_add_one]
 congr 1
 rw [List.getElem?_drop, show a + (k - a) = k by omega, List.getElem?_eq_getElem (by rw [Array.length_toList]; exact h2), get_bang s k h2]
 rfl
theorem ext_list (s : ByteArray) (a b : Nat) : (s.extract a b).data.toList = (s.data.toList.drop a).take (b - a) := by
 rw [ByteArray.data_extract, Array.toList_extract]
theorem ext_one {s : ByteArray} {k : Nat} (h : k < s.size) : (s.extract k (k + 1)).data.toList = [s[k]!] := by
 have h1 := cut_step (s := s) (a := k) (k := k) (Nat.le_refl _) h
 rw [ext_list, h1, Nat.sub_self]
 rfl
theorem cread_plain (s : ByteArray) (i j : Nat) (w : World) (hs : s.size <= 65536) (hij : i < j) (hj : j < s.size) (h0 : s[i]!.toNat = 34) (hm : ∀ k, i < k -> k < j -> okCh s[k]! = true) (h1 : s[j]!.toNat = 34) :
 Calls Tryz.prog 133 #[.string s, .int .i64 i] w fun e w' => e = .returned (.tuple #[.string (cutB s (i + 1) j), .int .i64 ((j : Int) + 1), .int .i64 0]) /\ Below w.heap.size w w' := by
 have hi : i < s.size := by omega
 rw [get_bang s i hi] at h0
 have HM : Hid (∀ k, i < k -> k < j -> okCh s[k]! = true) := hm
 have HJ : Hid (s[j]!.toNat = 34) := h1
 have HIJ : Hid (i < j /\ j < s.size /\ s.size <= 65536) := ⟨hij, hj, hs⟩
 have a0 : (0 : Int) <= (i : Int) := Int.natCast_nonneg _
 have a1 : (i : Int) < (s.size : Int) := by omega
 have a2 : i < 4398046510976 := by omega
 have q1 : decide ((i : Int) < 0) = false := by simp
 have q2 : decide (s.size <= i) = false := by simp; omega
 clear hm h1
 go_enter Tryz.func133, Tryz.ntmps133
 go_wp2_with fail
 go_loopw [7, 8] (fun v o wr => ∃ k : Nat, i + 1 <= k /\ k <= j /\ o = .int .i64 (k : Int) /\ Hid (OwnU wr w.heap.size v ((s.data.toList.drop (i + 1)).take (k - (i + 1))) /\ Below w.heap.size w wr)) (fun _ o _ => j - (intOf o).toNat)
 case atStart => exact ⟨i + 1, Nat.le_refl _, by omega, by go_num, by rw [Nat.sub_self]; exact Own.nil _ _ _, Below.refl _ _⟩
 case round =>
  obtain ⟨k, hk1, hk2, rfl, hown⟩ := hrel
  have b0 : (0 : Int) <= (k : Int) := Int.natCast_nonneg _
  have b1 : (k : Int) < (s.size : Int) := by omega
  have b2 : k < s.size := by omega
  by_cases hkj : k = j
  ·subst hkj
   have hc := HJ.out
   rw [get_bang s k b2] at hc
   have e1 : (((s[k].toNat : Nat) : Int) == 34) = true := by simp; omega
   have hst := str_of_own hown.out.1
   clear hc
   go_wp2_with fail
   go_ret3
   exact ⟨rfl, hown.out.2⟩
  ·have hok := okCh_iff (HM.out k (by omega) (by omega))
   rw [get_bang s k b2] at hok
   have e1 : (((s[k].toNat : Nat) : Int) == 34) = false := by simp; omega
   have e2 : decide (((s[k].toNat : Nat) : Int) < 32) = false := by simp; omega
   have e3 : (((s[k].toNat : Nat) : Int) == 92) = false := by simp; omega
   have h1 := one_ascii b2 (by rw [get_bang s k b2]; omega)
   have HON := Lib.hid (one_any s k wr (by unfold maxLen; omega) b2)
   rw [h1] at HON
   clear hok h1
   go_wp2_with fail
   refine HON.out.mono ?_
   rintro e w2 ⟨rfl, rfl⟩
   have HL : Hid (((s.data.toList.drop (i + 1)).take (k - (i + 1))).length + (s.extract k (k + 1)).size <= 140737488355328) := by
    unfold Hid
    rw [List.length_take, <- str_len (s.extract k (k + 1)), ext_one b2, List.length_singleton]
    have h1 : (s.data.toList.drop (i + 1)).length <= s.size := by rw [List.length_drop, str_len]; omega
    omega
   go_wp2_with (at_builtin; refine wpList_append_str _ rfl _ _ rfl rfl rfl hown.out.1 HL.out hown.out.2.size ?_; intro v3 w3 ho3 hg3)
   rw [ext_one b2, <- cut_step (by omega) b2] at ho3
   go_roundw
   case rel => exact ⟨k + 1, by omega, by omega, by go_num, ho3, Below.appended hown.out.2 hg3 hown.out.1 hown.out.2.size⟩
   case measure => simp [intOf]; omega
end
end Go.Proofs.YtfgjimpmpckgpaaGreatDoor
