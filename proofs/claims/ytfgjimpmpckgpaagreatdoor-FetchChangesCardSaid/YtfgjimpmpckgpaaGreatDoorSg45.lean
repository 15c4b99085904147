import Derived.Test.YtfgjimpmpckgpaaGreatDoorSg44
import Derived.Test.YtfgjimpmpckgpaaGreatDoorSg11
import Derived.Deep.RegionHeld3
import Derived.Test.YtfgjimpmpckgpaaGreatDoorSg12
import Derived.Test.YtfgjimpmpckgpaaGreatDoorSg03
import Derived.Test.YtfgjimpmpckgpaaGreatDoorSg23
import Derived.Test.YtfgjimpmpckgpaaGreatDoorSg41
set_option linter.unusedSimpArgs false
set_option linter.unusedVariables false
set_option maxRecDepth 200000
set_option maxHeartbeats 8000000
namespace Go.Proofs.YtfgjimpmpckgpaaGreatDoor
section
open Go Go.RowKit Go.OpenShut
def WrAny (r : RV) (t : JV) (base : Nat) (W : World) : Prop := ∀ (v : Value) (L : List UInt8), base <= W.heap.size -> OwnU W base v L -> L.length + 22 * bkT t <= 1099511627776 -> Calls Tryz.prog 73 #[v, r.val] W (WrRet W base v (L ++ txtT t))
def MemAt (W : World) (g : Nat) (x : RM) : Prop := W.heap[g]? = some (.cells #[.string x.name, .int .i64 x.v.k, .int .i64 x.v.n, .string x.v.s, .slice x.v.pl x.v.nl x.v.cl, .slice x.v.pm x.v.nm x.v.cm] 81 (0, 0))
theorem MemAt.lt {W : World} {g : Nat} {x : RM} (h : MemAt W g x) : g < W.heap.size := (Array.getElem?_eq_some_iff.1 h).1
theorem MemAt.cell {W : World} {g : Nat} {x : RM} (h : MemAt W g x) (j : Nat) {u : Value} (hu : (encM x)[j]? = some u) : W.cell? ⟨g, j, none⟩ = some u := by
 unfold MemAt at h
 rw [cell_of_row W g j _ _ _ h, <- Array.getElem?_toList]
 exact hu
theorem MemAt.cells6 {W : World} {g : Nat} {x : RM} (h : MemAt W g x) : W.cell? ⟨g, 0, none⟩ = some (.string x.name) /\ W.cell? ⟨g, 1, none⟩ = some (.int .i64 x.v.k) /\ W.cell? ⟨g, 2, none⟩ = some (.int .i64 x.v.n) /\ W.cell? ⟨g, 3, none⟩ = some (.string x.v.s) /\ W.cell? ⟨g, 4, none⟩ = some (.slice x.v.pl x.v.nl x.v.cl) /\ W.cell? ⟨g, 5, none⟩ = some (.slice x.v.pm x.v.nm x.v.cm) := ⟨h.cell 0 rfl, h.cell 1 rfl, h.cell 2 rfl, h.cell 3 rfl, h.cell 4 rfl, h.cell 5 rfl⟩
theorem MemAt.alloc {W : World} {g : Nat} {x : RM} (h : MemAt W g x) (o : Obj) : MemAt (W.alloc o) g x := heap_alloc_lt h.lt h
theorem WrTo.mat {w w1 : World} {base : Nat} {v v1 : Value} {L : List UInt8} {g : Nat} {x : RM} (h : WrTo w base v L v1 w1) (ha : MemAt w g x) (hne : v.ownBlock ≠ some g) : MemAt w1 g x := (h.grown.block g ha.lt (fun e => hne e.symm)).trans ha
section
variable {W : World} {g : Nat} {x : RM} (h : MemAt W g x)
include h
theorem MemAt.six : W.cell? ⟨g, 0, none⟩ = some (.string x.name) /\ W.cell? ⟨g, 1, none⟩ = some (.int .i64 x.v.k) /\ W.cell? ⟨g, 2, none⟩ = some (.int .i64 x.v.n) /\ W.cell? ⟨g, 3, none⟩ = some (.string x.v.s) /\ W.cell? ⟨g, 4, none⟩ = some (.slice x.v.pl x.v.nl x.v.cl) /\ W.cell? ⟨g, 5, none⟩ = some (.slice x.v.pm x.v.nm x.v.cm) :=
 ⟨h.cell 0 rfl, h.cell 1 rfl, h.cell 2 rfl, h.cell 3 rfl, h.cell 4 rfl, h.cell 5 rfl⟩
theorem MemAt.six_drew : W.drew.cell? ⟨g, 0, none⟩ = some (.string x.name) /\ W.drew.cell? ⟨g, 1, none⟩ = some (.int .i64 x.v.k) /\ W.drew.cell? ⟨g, 2, none⟩ = some (.int .i64 x.v.n) /\ W.drew.cell? ⟨g, 3, none⟩ = some (.string x.v.s) /\ W.drew.cell? ⟨g, 4, none⟩ = some (.slice x.v.pl x.v.nl x.v.cl) /\ W.drew.cell? ⟨g, 5, none⟩ = some (.slice x.v.pm x.v.nm x.v.cm) :=
 MemAt.six (W := W.drew) h
theorem MemAt.six_alloc (o : Obj) : (W.alloc o).cell? ⟨g, 0, none⟩ = some (.string x.name) /\ (W.alloc o).cell? ⟨g, 1, none⟩ = some (.int .i64 x.v.k) /\ (W.alloc o).cell? ⟨g, 2, none⟩ = some (.int .i64 x.v.n) /\ (W.alloc o).cell? ⟨g, 3, none⟩ = some (.string x.v.s) /\ (W.alloc o).cell? ⟨g, 4, none⟩ = some (.slice x.v.pl x.v.nl x.v.cl) /\ (W.alloc o).cell? ⟨g, 5, none⟩ = some (.slice x.v.pm x.v.nm x.v.cm) :=
 MemAt.six (h.alloc o)
theorem MemAt.six_ad (o : Obj) : (W.alloc o).drew.cell? ⟨g, 0, none⟩ = some (.string x.name) /\ (W.alloc o).drew.cell? ⟨g, 1, none⟩ = some (.int .i64 x.v.k) /\ (W.alloc o).drew.cell? ⟨g, 2, none⟩ = some (.int .i64 x.v.n) /\ (W.alloc o).drew.cell? ⟨g, 3, none⟩ = some (.string x.v.s) /\ (W.alloc o).drew.cell? ⟨g, 4, none⟩ = some (.slice x.v.pl x.v.nl x.v.cl) /\ (W.alloc o).drew.cell? ⟨g, 5, none⟩ = some (.slice x.v.pm x.v.nm x.v.cm) :=
 MemAt.six (W := (W.alloc o).drew) (h.alloc o)
end
theorem grown_drew (W : World) : W.grownBy W.drew none := ⟨rfl, rfl, rfl, Nat.le_refl _, fun _ _ _ => rfl⟩
theorem grown_ad (W : World) (o : Obj) : W.grownBy (W.alloc o).drew none := (World.grownBy_alloc W o none).trans (grown_drew _)
theorem wrTo_mk {w w1 : World} {base : Nat} {v v1 : Value} {L : List UInt8} (h : OwnU w1 base v1 L) (hg : w.grownBy w1 v.ownBlock) (hat : v1.ownBlock = v.ownBlock \/ v1.ownBlock = some w.heap.size) : WrTo w base v L v1 w1 := by
 refine ⟨h, hg, ?_⟩
 rcases hat with h1 | h1
 ·exact .inl h1
 ·refine .inr (fun k e => ?_)
  rw [h1] at e
  cases e
  exact Nat.le_refl _
theorem rd_after {Wp w3 : World} {base : Nat} {v v3 : Value} {L : List UInt8} (h : WrTo (Wp.alloc (.cells #[.int .u8 58] 5)).drew base v L v3 w3) (hv : ∀ k, v.ownBlock = some k -> base <= k /\ k < Wp.heap.size) : Rd w3 w3.heap.size encU 1 (.slice (some ⟨Wp.heap.size, 0, none⟩) 1 1) [58] := by
 have hz : Wp.heap.size < (Wp.alloc (.cells #[.int .u8 58] 5)).drew.heap.size := by show _ < (Wp.alloc _).heap.size; simp
 have hb : w3.heap[Wp.heap.size]? = some (.cells #[.int .u8 58] 5 (0, 0)) := (h.grown.block _ hz (fun e => by have := (hv _ e.symm).2; omega)).trans (show (Wp.alloc _).heap[Wp.heap.size]? = _ from heap_alloc_at rfl)
 exact Rd.one codecU hb rfl (Nat.lt_of_lt_of_le hz h.grown.size)
theorem take_empty {α : Type} {l : List α} {j : Nat} (h : j < l.length) : (l.take j).isEmpty = decide (j = 0) := by
 cases l with
 | nil => simp at h
 | cons a l => cases j <;> simp
theorem write_any (N : Nat) : ∀ (t : JV) (r : RV) (w : World) (B base : Nat), SizeOf.sizeOf t <= N -> TreeOf w B t r -> t.Ok -> B <= base -> bkT t <= 1048576 -> WrAny r t base w := by
 induction N with
 | zero => intro t r w B base hN; cases t; simp at hN
 | succ N ih =>
   intro t r w B base hN ht ot hBb hbk v L hbase hown hlen
   have hlt0 := txtT_len t ot
   cases ht with
   | @mk _ l m rs rms hl el hcl hm em hcn hcm =>
   obtain ⟨k, n, s, pl, nl, cl, pm, nm, cm⟩ := r
   cases ot with
   | mk wk wn bs bl bm okl oks okm =>
   dsimp only [RV.val] at *
   have eL := rd_nlen hl
   have eM := rd_nlen hm
   have hbk1 := hbk
   rw [bkT] at hbk1 hlen
   have hsb : s.size <= 1048576 := by omega
   have HT : Hid (∀ (i : Nat) t q, l[i]? = some t -> rs[i]? = some q -> ∀ W, Below B w W -> WrAny q t base W) :=
    fun i t q h1 h2 W hb => ih t q W B base (by have := JV.lt_l (k := k) (n := n) (s := s) (m := m) h1; omega) ((hcl i t q h1 h2).under hb (Nat.le_refl _)) (okl i t h1) hBb (by have := bkL_at l i t h1; omega)
   have HS : Hid (∀ (i : Nat) q x, m[i]? = some q -> rms[i]? = some x -> ∀ W, Below B w W -> WrAny x.v q.2 base W) :=
    fun i q x h1 h2 W hb => ih q.2 x.v W B base (by have := JV.lt_m (k := k) (n := n) (s := s) (l := l) h1; omega) ((hcm i q x h1 h2).under hb (Nat.le_refl _)) (okm i q h1) hBb (by have := bkM_at m i q h1; omega)
   have hnl : nl <= 1759218604390 := by omega
   have hnm : nm <= 1466015503658 := by omega
   have HCN := Lib.hid hcn
   have HL := Lib.hid hl
   have HM := Lib.hid hm
   have HWN := Lib.hid wn
   have E1 : Hid (l.length = nl /\ rs.length = nl) := ⟨by omega, by omega⟩
   have E2 : Hid (m.length = nm /\ rms.length = nm) := ⟨by omega, by omega⟩
   have hA0 : VAt (w.alloc (.cells #[.int .i64 k, .int .i64 n, .string s, .slice pl nl cl, .slice pm nm cm] 31)) w.heap.size ⟨k, n, s, pl, nl, cl, pm, nm, cm⟩ := heap_alloc_at rfl
   have hG0 : w.grownBy (w.alloc (.cells #[.int .i64 k, .int .i64 n, .string s, .slice pl nl cl, .slice pm nm cm] 31)) none := World.grownBy_alloc _ _ _
   have hO0 : OwnU (w.alloc (.cells #[.int .i64 k, .int .i64 n, .string s, .slice pl nl cl, .slice pm nm cm] 31)) base v L := hown.alloc _
   have hvl : ∀ k, v.ownBlock = some k -> k < w.heap.size := fun k e => (hown.lt k e).2
   have hvb : ∀ k, v.ownBlock = some k -> base <= k := fun k e => (hown.lt k e).1
   have HLT := Lib.hid hlt0
   have HOKL : Hid (∀ x ∈ l, x.Ok) := fun x hx => by obtain ⟨i, hi⟩ := List.getElem?_of_mem hx; exact okl i x hi
   have HOKM : Hid (∀ x ∈ m, x.2.Ok) := fun x hx => by obtain ⟨i, hi⟩ := List.getElem?_of_mem hx; exact okm i x hi
   clear ih hcl hcn hcm hl hm okl oks okm el em bl bm eL eM hN hown wk wn bs hbk hlt0
   go_enter Tryz.func73, Tryz.ntmps73
   go_upto_region 1 with fail
   obtain ⟨W0, hW0⟩ : ∃ W0, (w.alloc (.cells #[.int .i64 k, .int .i64 n, .string s, .slice pl nl cl, .slice pm nm cm] 31)) = W0 := ⟨_, rfl⟩
   have hz0 : W0.heap.size = w.heap.size + 1 := by rw [<- hW0]; simp
   rw [hW0] at hA0 hG0 hO0 ⊢
   clear hW0
   have HO := Lib.hid hO0
   have HA := Lib.hid hA0
   have HG := Lib.hid hG0
   have HVL := Lib.hid hvl
   have HVB := Lib.hid hvb
   have HEND : Hid (∀ (L' : List UInt8) (v' : Value) (w' : World), WrTo W0 base v L' v' w' -> txtT (.mk k n s l m) = L' -> True) := fun _ _ _ _ _ => trivial
   obtain ⟨a0, a1, a2, a3, a4⟩ := hA0.cells5
   dsimp only at a0 a1 a2 a3 a4
   clear hA0 hG0 hO0 hvl hvb HEND
   have hb0 : base <= W0.heap.size := by omega
   have HZ0 : Hid (W0.heap.size = w.heap.size + 1) := hz0
   clear hz0
   by_cases k1 : k = 1
   ·subst k1
    have HX : Hid (txtT (.mk 1 n s l m) = [110, 117, 108, 108]) := by unfold Hid; rw [txtT, if_pos rfl]
    go_wp2_with (at_builtin; refine wpList_append_str3 _ rfl _ _ rfl rfl rfl HO.out (by show _ + 4 <= _; omega) (by omega) ?_; intro v1 w2 h2)
    go_ret
    exact ⟨v1, rfl, by rw [HX.out]; exact h2.lead HG.out HVL.out⟩
   have q1 : (k == 1) = false := by simpa using k1
   by_cases k2 : k = 2
   ·subst k2
    by_cases n1 : n = 1
    ·subst n1
     have HX : Hid (txtT (.mk 2 1 s l m) = [116, 114, 117, 101]) := by unfold Hid; rw [txtT, if_neg (by decide), if_pos rfl, if_pos rfl]
     clear k1
     go_wp2_with (at_builtin; refine wpList_append_str3 _ rfl _ _ rfl rfl rfl HO.out (by show _ + 4 <= _; omega) (by omega) ?_; intro v1 w2 h2)
     go_ret
     exact ⟨v1, rfl, by rw [HX.out]; exact h2.lead HG.out HVL.out⟩
    ·have p1 : (n == 1) = false := by simpa using n1
     have HX : Hid (txtT (.mk 2 n s l m) = [102, 97, 108, 115, 101]) := by unfold Hid; rw [txtT, if_neg (by decide), if_pos rfl, if_neg n1]
     clear k1 n1
     go_wp2_with (at_builtin; refine wpList_append_str3 _ rfl _ _ rfl rfl rfl HO.out (by show _ + 5 <= _; omega) (by omega) ?_; intro v1 w2 h2)
     go_ret
     exact ⟨v1, rfl, by rw [HX.out]; exact h2.lead HG.out HVL.out⟩
   have q2 : (k == 2) = false := by simpa using k2
   by_cases k3 : k = 3
   ·subst k3
    have HX : Hid (txtT (.mk 3 n s l m) = numL n) := by unfold Hid; rw [txtT, if_neg (by decide), if_neg (by decide), if_pos rfl]
    have hpl := numL_len HWN.out
    have HP := Lib.hid (put_any3 n W0 HWN.out)
    clear k1 k2
    go_wp2_with (first | (go_at_call 53; refine HP.out.mono ?_; rintro e w1 ⟨rfl, hb1⟩; (have hz1 := hb1.size); (have hO1 := HO.out.below hb1 (Nat.le_refl _))) | (at_builtin; refine wpList_append_str3 _ rfl _ _ rfl rfl rfl hO1 (by rw [toB_size]; omega) (by omega) ?_; intro v1 w2 h2))
    go_ret
    rw [toB_list] at h2
    refine ⟨v1, rfl, by rw [HX.out]; exact (h2.lead ⟨hb1.os, hb1.tape, hb1.output, hb1.size, fun k hk _ => hb1.block k hk⟩ (fun k e => by have := HVL.out k e; have := HZ0.out; omega)).lead HG.out HVL.out⟩
   have q3 : (k == 3) = false := by simpa using k3
   by_cases k4 : k = 4
   ·subst k4
    have HX : Hid (txtT (.mk 4 n s l m) = quoL s) := by unfold Hid; rw [txtT, if_neg (by decide), if_neg (by decide), if_neg (by decide), if_pos rfl]
    have HP := Lib.hid (emitQuote_any v L s W0 base HO.out hb0 hsb (by omega))
    clear k1 k2 k3
    go_wp2_with (go_at_call 112; refine HP.out.mono ?_; rintro e w1 ⟨v1, rfl, h2⟩)
    go_ret
    exact ⟨v1, rfl, by rw [HX.out]; exact h2.lead HG.out HVL.out⟩
   have q4 : (k == 4) = false := by simpa using k4
   by_cases k5 : k = 5
   ·subst k5
    have HX : Hid (txtT (.mk 5 n s l m) = 91 :: txtL l true ++ [93]) := by unfold Hid; rw [txtT, if_neg (by decide), if_neg (by decide), if_neg (by decide), if_neg (by decide), if_pos rfl]
    clear k1 k2 k3 k4
    go_upto_region 14 with (at_builtin; refine wpList_append_b _ rfl _ _ rfl 91 rfl rfl HO.out rfl (by omega) hb0 ?_; intro v1 w2 h2)
    have hAx := h2.vat HA.out (fun e => by have := HVL.out _ e; omega)
    clear a0 a1 a2 a3 a4
    obtain ⟨a0, a1, a2, a3, a4⟩ := hAx.cells5
    dsimp only at a0 a1 a2 a3 a4
    have H2 := Lib.hid h2
    clear hAx h2
    go_wp2_with fail
    go_loopw [0, 45] (fun o i wr => ∃ j : Nat, j <= nl /\ i = .int .i64 j /\ Hid (WrTo W0 base v (L ++ (91 :: txtL (l.take j) true)) o wr)) (fun _ i _ => nl - (intOf i).toNat)
    case atStart => exact ⟨0, Nat.zero_le _, rfl, by rw [List.take_zero, txtL]; exact H2.out⟩
    case round =>
     obtain ⟨j, hj, rfl, hwr⟩ := hrel
     have hzr := hwr.out.grown.size
     by_cases hlt : j < nl
     ·obtain ⟨tx, htx⟩ : ∃ x, l[j]? = some x := ⟨_, List.getElem?_eq_getElem (by have := E1.out; omega)⟩
      obtain ⟨x, hx⟩ : ∃ x, rs[j]? = some x := ⟨_, List.getElem?_eq_getElem (by have := E1.out; omega)⟩
      have hbw : Below B w wr := ((Below.refl B w).grown HG.out (by omega) (fun k e => by cases e)).trans (hwr.out.below (b := B) (fun k e => by have := HVB.out k e; omega) (by omega))
      obtain ⟨b1, o1, rfl, hb1, hc1⟩ := rd_at' (HL.out.below hbw (Nat.le_refl _)) hx
      have f0 := hc1 0 _ rfl
      have f1 := hc1 1 _ rfl
      have f2 := hc1 2 _ rfl
      have f3 := hc1 3 _ rfl
      have f4 := hc1 4 _ rfl
      rw [Nat.add_zero] at f0
      have hst := txtL_snoc tx (l.take j) true
      rw [<- take_split htx, take_empty (by have := E1.out; omega)] at hst
      have HST := Lib.hid hst
      have hbl := bkL_at l j tx htx
      have hbt := txtL_len (l.take j) true (fun y hy => HOKL.out y (List.mem_of_mem_take hy))
      have hLj : (L ++ (91 :: txtL (l.take j) true)).length + 1 + 22 * (1 + bkT tx) <= 1099511627776 := by
       rw [List.length_append, List.length_cons]
       omega
      have HLj := Lib.hid hLj
      have HTX := Lib.hid (HT.out j tx x htx hx)
      have hk0 : (0 : Int) <= (j : Int) := Int.natCast_nonneg _
      have hk1 : (j : Int) < (nl : Int) := by omega
      have HBW := Lib.hid hbw
      have hbr : base <= wr.heap.size := by omega
      have HX2 : Hid (VAt (wr.alloc (.cells #[.int .i64 x.k, .int .i64 x.n, .string x.s, .slice x.pl x.nl x.cl, .slice x.pm x.nm x.cm] 31)) wr.heap.size x) := heap_alloc_at rfl
      clear hst hbl hbt hLj hbw hc1 htx hx
      have HW1 := Lib.hid (hwr.out.alloc (.cells #[.int .i64 x.k, .int .i64 x.n, .string x.s, .slice x.pl x.nl x.cl, .slice x.pm x.nm x.cm] 31))
      have HBA : Hid (Below B w (wr.alloc (.cells #[.int .i64 x.k, .int .i64 x.n, .string x.s, .slice x.pl x.nl x.cl, .slice x.pm x.nm x.cm] 31))) := HBW.out.alloc (by omega) _
      go_upto_region 17 with fail
      obtain ⟨W1, hW1⟩ : ∃ W1, wr.alloc (.cells #[.int .i64 x.k, .int .i64 x.n, .string x.s, .slice x.pl x.nl x.cl, .slice x.pm x.nm x.cm] 31) = W1 := ⟨_, rfl⟩
      obtain ⟨gx, hgx⟩ : ∃ g, wr.heap.size = g := ⟨_, rfl⟩
      have hzz : Hid (W1.heap.size = gx + 1) := by rw [<- hW1, <- hgx]; simp [Hid]
      rw [hW1, hgx] at HX2
      rw [hW1] at HW1 HBA
      rw [hgx] at hbr
      rw [hW1, hgx]
      have how := fun (k : Nat) e => (hwr.out.own.lt k e).2
      rw [hgx] at how
      have HOW := Lib.hid how
      clear hW1 HBW hwr hgx how f0 f1 f2 f3 f4 hzr
      by_cases hj0 : j = 0
      ·have hd : decide ((0 : Int) < (j : Int)) = false := by simp; omega
       have hd2 : decide (0 < j) = false := by simp; omega
       have hd3 : ¬ (0 < j) := by omega
       have hd4 : ¬ ((0 : Int) < (j : Int)) := by omega
       have HJ0 := Lib.hid hj0
       have hWr := HTX.out W1 HBA.out _ _ (by have := hzz.out; omega) HW1.out.own (by have := HLj.out; omega)
       have HWR := Lib.hid hWr
       obtain ⟨f0, f1, f2, f3, f4⟩ := HX2.out.cells5
       clear hWr hj0
       go_wp2_with (go_at_call 73; refine HWR.out.mono ?_; rintro e w3 ⟨v3, rfl, h3⟩)
       go_roundw
       case rel => exact ⟨j + 1, by omega, by go_num, by
        have h4 := HW1.out.trans h3
        unfold Hid
        rw [HST.out]
        simpa [HJ0.out] using h4⟩
       case measure => simp [intOf]; omega
      ·have hd : decide ((0 : Int) < (j : Int)) = true := by simp; omega
       have hd2 : decide (0 < j) = true := by simp; omega
       have hd3 : 0 < j := by omega
       have hd4 : ((0 : Int) < (j : Int)) := by omega
       have HJ0 := Lib.hid hj0
       have hoc := HW1.out.own
       have HLC := HLj.out
       clear hj0
       go_upto_region 19 with (at_builtin; refine wpList_append_b _ rfl _ _ rfl 44 rfl rfl hoc rfl (by omega) (by have := hzz.out; omega) ?_; intro v2 w2 h2)
       have HX3 := Lib.hid (h2.vat HX2.out (fun e => by have := HOW.out _ e; omega))
       have hWr := HTX.out w2 (HBA.out.trans (h2.below (b := B) (fun k e => by have := (hoc.lt k e).1; omega) (by have := hzz.out; omega))) _ _ (by have := h2.grown.size; have := hzz.out; omega) h2.own (by rw [List.length_append, List.length_singleton]; have := HLj.out; omega)
       have HWR := Lib.hid hWr
       have H2 := Lib.hid h2
       obtain ⟨f0, f1, f2, f3, f4⟩ := HX3.out.cells5
       clear hWr h2 hoc HLC
       go_wp2_with (go_at_call 73; refine HWR.out.mono ?_; rintro e w3 ⟨v3, rfl, h3⟩)
       go_roundw
       case rel => exact ⟨j + 1, by omega, by go_num, by
        have h4 := (HW1.out.trans H2.out).trans h3
        unfold Hid
        rw [HST.out]
        simpa [HJ0.out] using h4⟩
       case measure => simp [intOf]; omega
     ·obtain rfl : j = nl := by omega
      have hta : l.take j = l := List.take_of_length_le (by have := E1.out; omega)
      rw [hta] at hwr
      have hoc := hwr.out.own
      have hbt := txtL_len l true HOKL.out
      have hLc : (L ++ (91 :: txtL l true)).length + 1 <= 140737488355328 := by rw [List.length_append, List.length_cons]; omega
      have hj2 : ¬ ((j : Int) < (j : Int)) := by omega
      have HWF := Lib.hid hwr.out
      clear hwr hbt
      go_wp2_with (at_builtin; refine wpList_append_b _ rfl _ _ rfl 93 rfl rfl hoc rfl hLc (by omega) ?_; intro v2 w2 h2)
      go_ret
      refine ⟨v2, rfl, ?_⟩
      have h4 := ((HWF.out.trans h2).lead HG.out HVL.out)
      rw [HX.out]
      simpa using h4
   have q5 : (k == 5) = false := by simpa using k5
   have HX : Hid (txtT (.mk k n s l m) = 123 :: txtM m true ++ [125]) := by unfold Hid; rw [txtT, if_neg k1, if_neg k2, if_neg k3, if_neg k4, if_neg k5]
   clear k1 k2 k3 k4 k5
   go_upto_region 23 with (at_builtin; refine wpList_append_b _ rfl _ _ rfl 123 rfl rfl HO.out rfl (by omega) hb0 ?_; intro v1 w2 h2)
   have hAx := h2.vat HA.out (fun e => by have := HVL.out _ e; omega)
   clear a0 a1 a2 a3 a4
   obtain ⟨a0, a1, a2, a3, a4⟩ := hAx.cells5
   dsimp only at a0 a1 a2 a3 a4
   have H2 := Lib.hid h2
   clear hAx h2
   go_wp2_with fail
   go_loopw [0, 68] (fun o i wr => ∃ j : Nat, j <= nm /\ i = .int .i64 j /\ Hid (WrTo W0 base v (L ++ (123 :: txtM (m.take j) true)) o wr)) (fun _ i _ => nm - (intOf i).toNat)
   case atStart => exact ⟨0, Nat.zero_le _, rfl, by rw [List.take_zero, txtM]; exact H2.out⟩
   case round =>
    obtain ⟨j, hj, rfl, hwr⟩ := hrel
    have hzr := hwr.out.grown.size
    by_cases hlt : j < nm
    ·obtain ⟨tx, htx⟩ : ∃ x, m[j]? = some x := ⟨_, List.getElem?_eq_getElem (by have := E2.out; omega)⟩
     obtain ⟨x, hx⟩ : ∃ x, rms[j]? = some x := ⟨_, List.getElem?_eq_getElem (by have := E2.out; omega)⟩
     have hbw : Below B w wr := ((Below.refl B w).grown HG.out (by omega) (fun k e => by cases e)).trans (hwr.out.below (b := B) (fun k e => by have := HVB.out k e; omega) (by omega))
     obtain ⟨b1, o1, rfl, hb1, hc1⟩ := rd_at' (HM.out.below hbw (Nat.le_refl _)) hx
     have f0 := hc1 0 _ rfl
     have f1 := hc1 1 _ rfl
     have f2 := hc1 2 _ rfl
     have f3 := hc1 3 _ rfl
     have f4 := hc1 4 _ rfl
     have f5 := hc1 5 _ rfl
     rw [Nat.add_zero] at f0
     have hst := txtM_snoc tx (m.take j) true
     rw [<- take_split htx, take_empty (by have := E2.out; omega), HCN.out j tx x htx hx] at hst
     have HST := Lib.hid hst
     have hbl := bkM_at m j tx htx
     rw [HCN.out j tx x htx hx] at hbl
     have hbt := txtM_len (m.take j) true (fun y hy => HOKM.out y (List.mem_of_mem_take hy))
     have hsn : x.name.size <= 1048576 := by omega
     have hLj : (L ++ (123 :: txtM (m.take j) true)).length + 1 + 6 * x.name.size + 2 + 1 + 22 * (1 + bkT tx.2) <= 1099511627776 := by
      rw [List.length_append, List.length_cons]
      omega
     have HLj := Lib.hid hLj
     have HTX := Lib.hid (HS.out j tx x htx hx)
     have hk0 : (0 : Int) <= (j : Int) := Int.natCast_nonneg _
     have hk1 : (j : Int) < (nm : Int) := by omega
     have HBW := Lib.hid hbw
     have hbr : base <= wr.heap.size := by omega
     have HX2 : Hid (MemAt (wr.alloc (.cells #[.string x.name, .int .i64 x.v.k, .int .i64 x.v.n, .string x.v.s, .slice x.v.pl x.v.nl x.v.cl, .slice x.v.pm x.v.nm x.v.cm] 81)) wr.heap.size x) := heap_alloc_at rfl
     clear hst hbl hbt hLj hbw hc1 htx hx
     have HW1 := Lib.hid (hwr.out.alloc (.cells #[.string x.name, .int .i64 x.v.k, .int .i64 x.v.n, .string x.v.s, .slice x.v.pl x.v.nl x.v.cl, .slice x.v.pm x.v.nm x.v.cm] 81))
     have HBA : Hid (Below B w (wr.alloc (.cells #[.string x.name, .int .i64 x.v.k, .int .i64 x.v.n, .string x.v.s, .slice x.v.pl x.v.nl x.v.cl, .slice x.v.pm x.v.nm x.v.cm] 81))) := HBW.out.alloc (by omega) _
     go_upto_region 26 with fail
     obtain ⟨W1, hW1⟩ : ∃ W1, wr.alloc (.cells #[.string x.name, .int .i64 x.v.k, .int .i64 x.v.n, .string x.v.s, .slice x.v.pl x.v.nl x.v.cl, .slice x.v.pm x.v.nm x.v.cm] 81) = W1 := ⟨_, rfl⟩
     obtain ⟨gx, hgx⟩ : ∃ g, wr.heap.size = g := ⟨_, rfl⟩
     have hzz : Hid (W1.heap.size = gx + 1) := by rw [<- hW1, <- hgx]; simp [Hid]
     rw [hW1, hgx] at HX2
     rw [hW1] at HW1 HBA
     rw [hgx] at hbr
     rw [hW1, hgx]
     have how := fun (k : Nat) e => (hwr.out.own.lt k e).2
     rw [hgx] at how
     have HOW := Lib.hid how
     clear hW1 HBW hwr hgx how f0 f1 f2 f3 f4 f5 hzr
     by_cases hj0 : j = 0
     all_goals first
      | (have HJ0 : Hid (j = 0) := hj0
         have hd : decide ((0 : Int) < (j : Int)) = false := by simp; omega
         have hd2 : decide (0 < j) = false := by simp; omega
         have hd3 : ¬ (0 < j) := by omega
         have hd4 : ¬ ((0 : Int) < (j : Int)) := by omega
         have hnv : u0.ownBlock ≠ some gx := fun e => by have := HOW.out _ e; omega
         have hgz : gx < W1.heap.size := by have := hzz.out; omega
         have hcm : (if (decide (j = 0) && true) then ([] : List UInt8) else [44]) = [] := by rw [if_pos (by simpa using HJ0.out)]
         have hP : WrTo W0 base v ((L ++ (123 :: txtM (m.take j) true)) ++ (if (decide (j = 0) && true) then [] else [44])) u0 W1 := by rw [hcm, List.append_nil]; exact HW1.out
         clear hj0 hcm
         go_upto_region 28 with fail
         have HBP := HBA
         have HMP := HX2
         obtain ⟨vp, rfl⟩ : ∃ z, z = u0 := ⟨_, rfl⟩
         obtain ⟨Wp, rfl⟩ : ∃ z, z = W1 := ⟨_, rfl⟩)
      | (have HJ0 : Hid (¬ j = 0) := hj0
         have hd : decide ((0 : Int) < (j : Int)) = true := by simp; omega
         have hd2 : decide (0 < j) = true := by simp; omega
         have hd3 : 0 < j := by omega
         have hd4 : ((0 : Int) < (j : Int)) := by omega
         have hoc := HW1.out.own
         have HLC := HLj.out
         have hcm : (if (decide (j = 0) && true) then ([] : List UInt8) else [44]) = [44] := by rw [if_neg (by simpa using HJ0.out)]
         clear hj0
         go_upto_region 28 with (at_builtin; refine wpList_append_b _ rfl _ _ rfl 44 rfl rfl hoc rfl (by omega) (by have := hzz.out; omega) ?_; intro vp Wp h2)
         have HMP := Lib.hid (h2.mat HX2.out (fun e => by have := HOW.out _ e; omega))
         have HBP := Lib.hid (HBA.out.trans (h2.below (b := B) (fun k e => by have := (hoc.lt k e).1; omega) (by have := hzz.out; omega)))
         have hgz : gx < Wp.heap.size := by have := h2.grown.size; have := hzz.out; omega
         have hP : WrTo W0 base v ((L ++ (123 :: txtM (m.take j) true)) ++ (if (decide (j = 0) && true) then [] else [44])) vp Wp := by rw [hcm]; exact HW1.out.trans h2
         have hnv : vp.ownBlock ≠ some gx := fun e => by
          rcases h2.row with h3 | h3
          ·rw [h3] at e; have := HOW.out _ e; omega
          ·have := h3 _ e; have := hzz.out; omega
         clear h2 hoc HLC hcm)
     all_goals
      have HP := Lib.hid hP
      have HNV := Lib.hid hnv
      clear hP hnv hd hd2 hd3 hd4
      obtain ⟨Lp, hLp⟩ : ∃ z, (L ++ (123 :: txtM (m.take j) true)) ++ (if (decide (j = 0) && true) then [] else [44]) = z := ⟨_, rfl⟩
      have hLl : Lp.length <= (L ++ (123 :: txtM (m.take j) true)).length + 1 := by
       rw [<- hLp, List.length_append]
       split <;> simp
      have hLt : L ++ (123 :: txtM (m.take (j + 1)) true) = Lp ++ quoL x.name ++ [58] ++ txtT tx.2 := by
       rw [HST.out, <- hLp]
       simp
      rw [hLp] at HP
      have hLl2 : Lp.length + 6 * x.name.size + 3 + 22 * (1 + bkT tx.2) <= 1099511627776 := by have := HLj.out; omega
      have hql := quoL_len x.name
      have HLL := Lib.hid hLl2
      have HLT := Lib.hid hLt
      have HQL := Lib.hid hql
      clear hLl hLt hLl2 hql hLp
      have HPV : Hid (∀ k, vp.ownBlock = some k -> base <= k /\ k < Wp.heap.size) := fun k e => HP.out.own.lt k e
      have HBZ : Hid (base <= Wp.heap.size) := by unfold Hid; omega
      have HQ : Hid (∀ W, OwnU W base vp Lp -> base <= W.heap.size -> Calls Tryz.prog 112 #[vp, .string x.name] W (WrRet W base vp (Lp ++ quoL x.name))) := fun W ho hz => emitQuote_any vp Lp x.name W base ho hz hsn (by have := HLL.out; omega)
      obtain ⟨c0, c1, c2, c3, c4, c5⟩ := HMP.out.cells6
      go_region_held3 (fun w' => w'.cell? ⟨gx, 0, none⟩ = some (.string x.name) /\ w'.cell? ⟨gx, 1, none⟩ = some (.int .i64 x.v.k) /\ w'.cell? ⟨gx, 2, none⟩ = some (.int .i64 x.v.n) /\ w'.cell? ⟨gx, 3, none⟩ = some (.string x.v.s) /\ w'.cell? ⟨gx, 4, none⟩ = some (.slice x.v.pl x.v.nl x.v.cl) /\ w'.cell? ⟨gx, 5, none⟩ = some (.slice x.v.pm x.v.nm x.v.cm))
       (first | with_reducible exact MemAt.six hm5 | with_reducible exact MemAt.six hm4 | with_reducible exact MemAt.six_alloc hm3 _ | with_reducible exact MemAt.six hm3 | with_reducible exact MemAt.six_ad HMP.out _ | with_reducible exact MemAt.six_drew HMP.out)
       (first
        | (go_at_call 112; refine (HQ.out _ (by first | exact HP.out.own | exact HP.out.own.alloc _) (by have := HBZ.out; simp; omega)).mono ?_; rintro e w3 ⟨v3, rfl, h3⟩; (have hm3 : MemAt w3 gx x := by first | exact h3.mat (show MemAt _ gx x from HMP.out) HNV.out | exact h3.mat (show MemAt _ gx x from HMP.out.alloc _) HNV.out); (have H3 : WrTo Wp base vp (Lp ++ quoL x.name) v3 w3 := by first | exact h3.lead (grown_drew Wp) (fun k e => (HPV.out k e).2) | exact h3.lead (grown_ad Wp _) (fun k e => (HPV.out k e).2)); (have hs3 := H3.grown.size); (have hn3 : v3.ownBlock ≠ some gx := fun e => by { rcases H3.row with h | h; (rw [h] at e; exact HNV.out e); (have := h _ e; omega) }); (first | (have HC3 := rd_after (Wp := Wp) h3 HPV.out) | skip))
        | (refine step_append_rd slU codecU w3 (by rfl) (.tmp 81) (.tmp 82) (by rfl) (by rfl) (by rfl) H3.own HC3 (by have := HLL.out; have := HQL.out; unfold maxLen; simp only [List.length_append, List.length_singleton]; omega) (by have := HLL.out; have := HQL.out; simp only [List.length_append, List.length_singleton]; omega) (by have := HBZ.out; omega) ?_; intro v4 w4 ho4 hg4 hat4; (have H4 := wrTo_mk ho4 hg4 hat4); (have hm4 := H4.mat hm3 hn3); (have HH4 := H3.trans H4))
        | (refine step_append_rd slU codecU (w3.alloc (.cells #[.int .u8 58] 5)) (by rfl) (.tmp 81) (.tmp 82) (by rfl) (by rfl) (by rfl) (H3.own.alloc _) (rd_byte w3 58 58 rfl) (by have := HLL.out; have := HQL.out; unfold maxLen; simp only [List.length_append, List.length_singleton]; omega) (by have := HLL.out; have := HQL.out; simp only [List.length_append, List.length_singleton]; omega) (by have := HBZ.out; simp; omega) ?_; intro v4 w4 ho4 hg4 hat4; (have H4 := wrTo_byte ho4 hg4 hat4 H3.own); (have hm4 := H4.mat hm3 hn3); (have HH4 := H3.trans H4))
        | (go_at_call 73; refine (HTX.out w4 (HBP.out.trans (HH4.below (b := B) (fun k e => by have := (HPV.out k e).1; omega) (by have := HBZ.out; omega))) v4 _ (by have := HBZ.out; have := HH4.grown.size; omega) HH4.own (by have := HLL.out; have := HQL.out; simp only [List.length_append, List.length_singleton]; omega)).mono ?_; rintro e w5 ⟨v5, rfl, h5⟩; (have H5 := HH4.trans h5); (have hn4 : v4.ownBlock ≠ some gx := fun e => by { rcases HH4.row with h | h; (rw [h] at e; exact HNV.out e); (have := h _ e; omega) }); (have hm5 := h5.mat hm4 hn4)))
      all_goals
       go_wp2_with fail
       go_roundw
       case rel => exact ⟨j + 1, by omega, by go_num, by
        unfold Hid
        rw [HLT.out]
        exact HP.out.trans H5⟩
       case measure => simp [intOf]; omega
    ·obtain rfl : j = nm := by omega
     have hta : m.take j = m := List.take_of_length_le (by have := E2.out; omega)
     rw [hta] at hwr
     have hoc := hwr.out.own
     have hbt := txtM_len m true HOKM.out
     have hLc : (L ++ (123 :: txtM m true)).length + 1 <= 140737488355328 := by rw [List.length_append, List.length_cons]; omega
     have hj2 : ¬ ((j : Int) < (j : Int)) := by omega
     have HWF := Lib.hid hwr.out
     clear hwr hbt
     go_wp2_with (at_builtin; refine wpList_append_b _ rfl _ _ rfl 125 rfl rfl hoc rfl hLc (by omega) ?_; intro v2 w2 h2)
     go_ret
     refine ⟨v2, rfl, ?_⟩
     have h4 := ((HWF.out.trans h2).lead HG.out HVL.out)
     rw [HX.out]
     simpa using h4
def textB (t : JV) : ByteArray := if checkE t = 0 then toB (txtT t) else ⟨#[]⟩
def TextRet (w : World) (t : JV) (e : Ending) (w' : World) : Prop := e = .returned (.tuple #[.string (textB t), .int .i64 (checkE t)]) /\ Below w.heap.size w w'
theorem text_any (t : JV) (r : RV) (w : World) (ht : TreeOf w w.heap.size t r) (ot : t.Ok) (hb : bkT t <= 1048576) : Calls Tryz.prog 27 #[r.val] w (TextRet w t) := by
 have hA0 : VAt (w.alloc r.obj) w.heap.size r := heap_alloc_at rfl
 have hB0 : Below w.heap.size w (w.alloc r.obj) := (Below.refl _ _).alloc (Nat.le_refl _) _
 have HC : Hid (∀ W, Below w.heap.size w W -> Calls Tryz.prog 28 #[r.val] W fun e w' => e = .returned (.int .i64 (checkE t)) /\ Below W.heap.size W w') := fun W hb => check_any t r W (ht.under hb hb.size) ot
 have HW : Hid (∀ W, Below w.heap.size w W -> Calls Tryz.prog 73 #[.slice none 0 0, r.val] W (WrRet W w.heap.size (.slice none 0 0) (txtT t))) := fun W hbb => write_any _ t r W w.heap.size w.heap.size (Nat.le_refl _) (ht.under hbb (Nat.le_refl _)) ot (Nat.le_refl _) hb (.slice none 0 0) [] hbb.size (Own.nil _ _ _) (by simp; omega)
 dsimp only [RV.val, RV.obj] at *
 obtain ⟨c, hc⟩ : ∃ c, checkE t = c := ⟨_, rfl⟩
 rw [hc] at HC
 have HTR : Hid (TextRet w t = fun e w' => e = .returned (.tuple #[.string (textB t), .int .i64 c]) /\ Below w.heap.size w w') := by unfold Hid; funext e w'; unfold TextRet; rw [hc]
 rw [HTR.out]
 clear HTR ht ot hb
 go_enter Tryz.func27, Tryz.ntmps27
 go_upto_region 1 with fail
 obtain ⟨W0, hW0⟩ : ∃ W0, (w.alloc (.cells #[.int .i64 r.k, .int .i64 r.n, .string r.s, .slice r.pl r.nl r.cl, .slice r.pm r.nm r.cm] 31)) = W0 := ⟨_, rfl⟩
 rw [hW0] at hA0 hB0 ⊢
 clear hW0
 obtain ⟨a0, a1, a2, a3, a4⟩ := hA0.cells5
 have HB := Lib.hid hB0
 have HA := Lib.hid hA0
 clear hA0 hB0
 by_cases h0 : c = 0
 ·subst h0
  have HX : Hid (textB t = toB (txtT t)) := by unfold Hid textB; rw [if_pos hc]
  go_upto_region 4 with (go_at_call 28; refine (HC.out _ HB.out).mono ?_; rintro e w1 ⟨rfl, hb1⟩)
  have HA1 := HA.out.under hb1 HA.out.lt
  have HB1 := Lib.hid (HB.out.trans (hb1.mono HB.out.size))
  clear a0 a1 a2 a3 a4 hc
  obtain ⟨a0, a1, a2, a3, a4⟩ := HA1.cells5
  go_wp2_with (go_at_call 73; refine (HW.out _ HB1.out).mono ?_; rintro e w2 ⟨v2, rfl, h2⟩; have hcv := str_of_own h2.own)
  go_ret2
  exact ⟨by rw [HX.out]; rfl, h2.below (b := w.heap.size) (fun k e => by simp [Value.ownBlock] at e) HB1.out.size |> fun h => HB1.out.trans h⟩
 ·have HX : Hid (textB t = ⟨#[]⟩) := by unfold Hid textB; rw [if_neg (by rw [hc]; exact h0)]
  have hz : (c != 0) = true := by simpa using h0
  clear hc h0
  go_wp2_with (go_at_call 28; refine (HC.out _ HB.out).mono ?_; rintro e w1 ⟨rfl, hb1⟩)
  go_ret2
  exact ⟨by rw [HX.out]; rfl, HB.out.trans (hb1.mono HB.out.size)⟩
def aA : ByteArray := ⟨#[65]⟩
def awS : ByteArray := ⟨#[123, 34, 97, 99, 99, 111, 117, 110, 116, 73, 100, 34, 58, 34, 65, 34, 44, 34, 105, 100, 115, 34, 58, 91, 34, 120, 34, 44, 34, 120, 34, 93, 125]⟩
def awX : JV := textJ ⟨#[120]⟩
def awV : JV := objJ [(accIdN, textJ aA), (idsN, listJ [awX, awX])]
def awR : JV := objJ [(accIdN, textJ aA), (stateN, textJ ⟨#[99, 48]⟩), (listN, listJ []), (notFoundN, listJ [awX])]
def awO : ByteArray := ⟨#[123, 34, 97, 99, 99, 111, 117, 110, 116, 73, 100, 34, 58, 34, 65, 34, 44, 34, 115, 116, 97, 116, 101, 34, 58, 34, 99, 48, 34, 44, 34, 108, 105, 115, 116, 34, 58, 91, 93, 44, 34, 110, 111, 116, 70, 111, 117, 110, 100, 34, 58, 91, 34, 120, 34, 93, 125]⟩
theorem aw_read : readF awS = Option.some awV := by kernel_rfl
theorem aw_args : argsB awV ksG = true := by kernel_rfl
theorem aw_get : getJ aA true BoxD.zero (argI awV) (argP awV) = awR := by kernel_rfl
theorem aw_big : bigB BoxD.zero (argI awV) (argP awV) = false := by kernel_rfl
theorem aw_chk : checkE awR = 0 := by kernel_rfl
theorem aw_text : textB awR = awO := by kernel_rfl
theorem aw_bk : decide (bkT awR <= 1048576) = true := by kernel_rfl
theorem aw_vok : awV.Ok := objJ_ok (by decide) (fun p hp => by
 simp only [List.mem_cons, List.not_mem_nil, or_false] at hp
 rcases hp with rfl | rfl
 ·show accIdN.size <= _; decide
 ·show idsN.size <= _; decide) (fun p hp => by
 simp only [List.mem_cons, List.not_mem_nil, or_false] at hp
 rcases hp with rfl | rfl
 ·exact textJ_ok (by decide)
 ·refine listJ_ok (by decide) (fun x hx => ?_)
  simp only [List.mem_cons, List.not_mem_nil, or_false, or_self] at hx
  subst hx
  exact textJ_ok (by decide))
theorem aw_rok : awR.Ok := by
 rw [<- aw_get]
 exact getJ_ok (by decide) (by decide) (fun p hp => by simp [BoxD.zero] at hp) (argG_ok aw_vok _) aw_big
theorem aw_yes {w : World} {e : Ending} {w' : World} (h : GetRet26 w aA true true BoxD.zero awV e w') : ∃ r, e = .returned (.tuple #[RV.val r, .string ⟨#[]⟩]) /\ TreeOf w' w'.heap.size awR r /\ Below w.heap.size w w' := by
 obtain ⟨r, h1, h2, h3⟩ := h
 have e1 : getWhy true BoxD.zero awV = ⟨#[]⟩ := by unfold getWhy; rw [aw_args, aw_big]; rfl
 have e2 : getT aA true true BoxD.zero awV = awR := by unfold getT; rw [aw_args, aw_big]; exact aw_get
 rw [e1] at h1
 rw [e2] at h2
 exact ⟨r, h1, h2, h3⟩
theorem aw_no {w : World} {e : Ending} {w' : World} (h : GetRet26 w aA false true BoxD.zero awV e w') : ∃ r, e = .returned (.tuple #[RV.val r, .string ⟨#[97, 99, 99, 111, 117, 110, 116, 78, 111, 116, 70, 111, 117, 110, 100]⟩]) /\ Below w.heap.size w w' := by
 obtain ⟨r, h1, h2, h3⟩ := h
 have e1 : getWhy false BoxD.zero awV = noAccN := by unfold getWhy whyB; rw [aw_args]; rfl
 rw [e1] at h1
 exact ⟨r, h1, h3⟩
theorem ac_zero (w : World) (B : Nat) : AcOf w B ⟨aA, BoxD.zero, BoxD.zero, 0⟩ ⟨aA, RB.zero, RB.zero, 0⟩ := ⟨rfl, BoxOf.zero _ _, BoxOf.zero _ _⟩
theorem awake26N_any (w : World) (hV : Vars w) : Calls Tryz.prog 5 #[] w fun e w' => e = .returned (.bool true) /\ Below w.heap.size w w' := by
 have HV := Lib.hid hV
 have CR : Hid (Calls Tryz.prog 26 #[.string ⟨#[123, 34, 97, 99, 99, 111, 117, 110, 116, 73, 100, 34, 58, 34, 65, 34, 44, 34, 105, 100, 115, 34, 58, 91, 34, 120, 34, 44, 34, 120, 34, 93, 125]⟩] w (ReadRet w awV)) := read_any w awS awV (by decide) aw_read
 have CG1 : Hid (∀ (W : World) (r : RV), Below w.heap.size w W -> TreeOf W W.heap.size awV r -> Calls Tryz.prog 23 #[.agg #[.string ⟨#[65]⟩, .slice none 0 0, .slice none 0 0, .int .i64 0, .int .i64 0, .int .i64 0, .slice none 0 0, .slice none 0 0, .int .i64 0, .int .i64 0, .int .i64 0, .int .i64 0], .bool true, .int .i64 1, RV.val r] W fun e w' => ∃ q, e = .returned (.tuple #[RV.val q, .string ⟨#[]⟩]) /\ TreeOf w' w'.heap.size awR q /\ Below W.heap.size W w') := fun W r hb ht =>
  (fgetN_any ⟨aA, BoxD.zero, BoxD.zero, 0⟩ ⟨aA, RB.zero, RB.zero, 0⟩ true false awV r W (HV.out.below hb) (ac_zero _ _) BoxD.zero_ok BoxD.zero_ok (fun bk => by cases bk <;> rfl) ht aw_vok).mono (fun e w' h => aw_yes h)
 have CG2 : Hid (∀ (W : World) (r : RV), Below w.heap.size w W -> TreeOf W W.heap.size awV r -> Calls Tryz.prog 23 #[.agg #[.string ⟨#[65]⟩, .slice none 0 0, .slice none 0 0, .int .i64 0, .int .i64 0, .int .i64 0, .slice none 0 0, .slice none 0 0, .int .i64 0, .int .i64 0, .int .i64 0, .int .i64 0], .bool false, .int .i64 1, RV.val r] W fun e w' => ∃ q, e = .returned (.tuple #[RV.val q, .string ⟨#[97, 99, 99, 111, 117, 110, 116, 78, 111, 116, 70, 111, 117, 110, 100]⟩]) /\ Below W.heap.size W w') := fun W r hb ht =>
  (fgetN_any ⟨aA, BoxD.zero, BoxD.zero, 0⟩ ⟨aA, RB.zero, RB.zero, 0⟩ false false awV r W (HV.out.below hb) (ac_zero _ _) BoxD.zero_ok BoxD.zero_ok (fun bk => by cases bk <;> rfl) ht aw_vok).mono (fun e w' h => aw_no h)
 have CT : Hid (∀ (W : World) (r : RV), TreeOf W W.heap.size awR r -> Calls Tryz.prog 27 #[RV.val r] W fun e w' => e = .returned (.tuple #[.string ⟨#[123, 34, 97, 99, 99, 111, 117, 110, 116, 73, 100, 34, 58, 34, 65, 34, 44, 34, 115, 116, 97, 116, 101, 34, 58, 34, 99, 48, 34, 44, 34, 108, 105, 115, 116, 34, 58, 91, 93, 44, 34, 110, 111, 116, 70, 111, 117, 110, 100, 34, 58, 91, 34, 120, 34, 93, 125]⟩, .int .i64 0]) /\ Below W.heap.size W w') := fun W r ht =>
  (text_any awR r W ht aw_rok (of_decide_eq_true aw_bk)).mono (fun e w' h => by
   obtain ⟨h1, h2⟩ := h
   rw [aw_text, aw_chk] at h1
   exact ⟨h1, h2⟩)
 clear hV
 go_enter Tryz.func5, Tryz.ntmps5
 go_upto_region 2 with (go_at_call 26; refine CR.out.mono ?_; rintro e w1 ⟨r1, rfl, ht1, hb1⟩; obtain ⟨ak, an, aS, apl, anl, acl, apm, anm, acm⟩ := r1)
 have hb2 : Below w.heap.size w (w1.alloc (.cells #[.int .i64 ak, .int .i64 an, .string aS, .slice apl anl acl, .slice apm anm acm] 31)) := hb1.alloc hb1.size _
 have hv2 : VAt (w1.alloc (.cells #[.int .i64 ak, .int .i64 an, .string aS, .slice apl anl acl, .slice apm anm acm] 31)) w1.heap.size ⟨ak, an, aS, apl, anl, acl, apm, anm, acm⟩ := heap_alloc_at rfl
 have ht2 := ht1.under ((Below.refl w1.heap.size w1).alloc (Nat.le_refl _) (.cells #[.int .i64 ak, .int .i64 an, .string aS, .slice apl anl acl, .slice apm anm acm] 31)) (Nat.le_succ _)
 have hs2 : w1.heap.size + 1 <= (w1.alloc (.cells #[.int .i64 ak, .int .i64 an, .string aS, .slice apl anl acl, .slice apm anm acm] 31)).heap.size := by simp
 obtain ⟨g1, hg1⟩ : ∃ g, w1.heap.size = g := ⟨_, rfl⟩
 obtain ⟨W2, hW2⟩ : ∃ W, w1.alloc (.cells #[.int .i64 ak, .int .i64 an, .string aS, .slice apl anl acl, .slice apm anm acm] 31) = W := ⟨_, rfl⟩
 rw [hW2] at hb2 hv2 ht2 hs2
 rw [hg1] at hv2 hs2 ht2
 try rw [hW2]
 try rw [hg1]
 have HT2 : Hid (TreeOf W2 W2.heap.size awV ⟨ak, an, aS, apl, anl, acl, apm, anm, acm⟩) := ht2.mono (by omega)
 have HB2 := Lib.hid hb2
 have HV2 := Lib.hid hv2
 obtain ⟨a0, a1, a2, a3, a4⟩ := hv2.cells5
 dsimp only at a0 a1 a2 a3 a4
 clear hW2 hg1 hb1 ht1 hb2 ht2 hv2 hs2
 go_upto_region 3 with (go_at_call 23; refine (CG1.out _ ⟨ak, an, aS, apl, anl, acl, apm, anm, acm⟩ HB2.out HT2.out).mono ?_; rintro e w3 ⟨r3, rfl, ht3, hb3⟩; obtain ⟨ck, cn, cs, cpl, cnl, ccl, cpm, cnm, ccm⟩ := r3)
 have hb4 : Below W2.heap.size W2 (w3.alloc (.cells #[.int .i64 ck, .int .i64 cn, .string cs, .slice cpl cnl ccl, .slice cpm cnm ccm] 31)) := hb3.alloc hb3.size _
 have hv4 : VAt (w3.alloc (.cells #[.int .i64 ck, .int .i64 cn, .string cs, .slice cpl cnl ccl, .slice cpm cnm ccm] 31)) w3.heap.size ⟨ck, cn, cs, cpl, cnl, ccl, cpm, cnm, ccm⟩ := heap_alloc_at rfl
 have ht4 : TreeOf (w3.alloc (.cells #[.int .i64 ck, .int .i64 cn, .string cs, .slice cpl cnl ccl, .slice cpm cnm ccm] 31)) (w3.alloc (.cells #[.int .i64 ck, .int .i64 cn, .string cs, .slice cpl cnl ccl, .slice cpm cnm ccm] 31)).heap.size awR ⟨ck, cn, cs, cpl, cnl, ccl, cpm, cnm, ccm⟩ := ht3.under ((Below.refl w3.heap.size w3).alloc (Nat.le_refl _) _) (by simp)
 obtain ⟨g4, hg4⟩ : ∃ g, w3.heap.size = g := ⟨_, rfl⟩
 obtain ⟨W4, hW4⟩ : ∃ W, w3.alloc (.cells #[.int .i64 ck, .int .i64 cn, .string cs, .slice cpl cnl ccl, .slice cpm cnm ccm] 31) = W := ⟨_, rfl⟩
 rw [hW4] at hb4 hv4 ht4
 rw [hg4] at hv4
 try rw [hW4]
 try rw [hg4]
 have HT4 := Lib.hid ht4
 have HB4 := Lib.hid hb4
 obtain ⟨c0, c1, c2, c3, c4⟩ := hv4.cells5
 dsimp only at c0 c1 c2 c3 c4
 clear hW4 hg4 hb3 ht3 hb4 ht4 hv4 a0 a1 a2 a3 a4
 go_upto_region 4 with (go_at_call 27; refine (CT.out _ ⟨ck, cn, cs, cpl, cnl, ccl, cpm, cnm, ccm⟩ HT4.out).mono ?_; rintro e w5 ⟨rfl, hb5⟩)
 have hb25 : Below W2.heap.size W2 w5 := HB4.out.trans (hb5.mono HB4.out.size)
 have HT5 : Hid (TreeOf w5 w5.heap.size awV ⟨ak, an, aS, apl, anl, acl, apm, anm, acm⟩) := HT2.out.under hb25 hb25.size
 have HB5 : Hid (Below w.heap.size w w5) := HB2.out.trans (hb25.mono HB2.out.size)
 have hv5 := HV2.out.under hb25 HV2.out.lt
 obtain ⟨a0, a1, a2, a3, a4⟩ := hv5.cells5
 dsimp only at a0 a1 a2 a3 a4
 clear hv5 hb25 hb5 c0 c1 c2 c3 c4
 go_wp2_with (go_at_call 23; refine (CG2.out _ ⟨ak, an, aS, apl, anl, acl, apm, anm, acm⟩ HB5.out HT5.out).mono ?_; rintro e w6 ⟨r6, rfl, hb6⟩; obtain ⟨dk, dn, ds, dpl, dnl, dcl, dpm, dnm, dcm⟩ := r6)
 go_ret
 exact ⟨rfl, (HB5.out.trans (hb6.mono HB5.out.size)).alloc (by have := HB5.out.size; have := hb6.size; omega) _⟩
end
end Go.Proofs.YtfgjimpmpckgpaaGreatDoor
