import Derived.Test.YtffhccmppdgmfaaGreatDoorG20
import Derived.Test.YtffhccmppdgmfaaGreatDoorG14
import Derived.Test.YtffhccmppdgmfaaGreatDoorG16
import Derived.Test.YtffhccmppdgmfaaGreatDoorG06
import Derived.Test.YtffhccmppdgmfaaGreatDoorG12
import Derived.Test.YtffhccmppdgmfaaGreatDoorG08
import Derived.Test.YtffhccmppdgmfaaGreatDoorG03
set_option linter.unusedSimpArgs false
set_option linter.unusedVariables false
set_option maxRecDepth 200000
set_option maxHeartbeats 8000000
namespace Go.Proofs.YtffhccmppdgmfaaGreatDoor
section
open Go.RowKit Go.OpenShut
theorem few20_any (f v : JV) (r q : RV) (w : World) (hf : TreeOf w w.heap.size f r) (of : f.Ok) (hv : TreeOf w w.heap.size v q) (ov : v.Ok) :
 Calls Tryz.prog 21 #[r.val, q.val] w fun e w' => ∃ b : Bool, e = .returned (.bool b) /\ Hid (b = true -> (OwnN f /\ countT f <= 300) /\ OwnN v /\ countT v <= 800) /\ Below w.heap.size w w' := by
 obtain ⟨W0, hW0⟩ : ∃ W0, (w.alloc (.cells #[.int .i64 r.k, .int .i64 r.n, .string r.s, .slice r.pl r.nl r.cl, .slice r.pm r.nm r.cm] 25)).alloc (.cells #[.int .i64 q.k, .int .i64 q.n, .string q.s, .slice q.pl q.nl q.cl, .slice q.pm q.nm q.cm] 25) = W0 := ⟨_, rfl⟩
 have hA0 : VAt W0 w.heap.size r := by rw [<- hW0]; exact heap_alloc_lt (by simp) (heap_alloc_at rfl)
 have hC0 : VAt W0 (w.heap.size + 1) q := by rw [<- hW0]; exact heap_alloc_at (by simp)
 have hB0 : Below w.heap.size w W0 := by rw [<- hW0]; exact ((Below.refl _ _).alloc (Nat.le_refl _) _).alloc (by simp) _
 have HF : Hid (∀ W, Below w.heap.size w W -> Calls Tryz.prog 18 #[r.val, .int .i64 300] W (SomeN f r.nm 300 W)) := fun W hb => few7n_any f r 300 W (by decide) (hf.under hb hb.size) of
 have HV : Hid (∀ W, Below w.heap.size w W -> Calls Tryz.prog 18 #[q.val, .int .i64 800] W (SomeN v q.nm 800 W)) := fun W hb => few7n_any v q 800 W (by decide) (hv.under hb hb.size) ov
 clear hf hv
 go_enter Tryz.func21, Tryz.ntmps21
 go_upto_region 1 with fail
 try rw [hW0]
 clear hW0
 have hz := hA0.lt
 have hz2 := hC0.lt
 obtain ⟨c0, c1, c2, c3, c4⟩ := hA0.cells5
 obtain ⟨d0, d1, d2, d3, d4⟩ := hC0.cells5
 clear hA0 hC0
 go_wp2_with (first
  | (go_at_call 18; (with_reducible refine (HF.out _ hB0).mono ?_); rintro e w1 ⟨b1, rfl, hL, hbA⟩; (have hb1 := hB0.trans (hbA.mono hB0.size)); (have e0 := bcs hbA hz2 d0); (have e1 := bcs hbA hz2 d1); (have e2 := bcs hbA hz2 d2); (have e3 := bcs hbA hz2 d3); (have e4 := bcs hbA hz2 d4); cases b1)
  | (go_at_call 18; (with_reducible refine (HV.out _ hb1).mono ?_); rintro e w2 ⟨b2, rfl, hM, hbB⟩; (have hb2 := hb1.trans (hbB.mono hb1.size))))
 all_goals go_ret
 all_goals first
  | exact ⟨b2, rfl, fun h => ⟨(hL.out (by trivial)).2, (hM.out h).2⟩, hb2⟩
  | exact ⟨false, rfl, (fun h => by cases h), hb1⟩
theorem light20_any (t : JV) (r : RV) (most : Nat) (w : World) (hmost : most <= 1000000) (ht : TreeOf w w.heap.size t r) (ot : t.Ok) :
 Calls Tryz.prog 22 #[r.val, .int .i64 (most : Int)] w fun e w' => ∃ b : Bool, e = .returned (.bool b) /\ Hid (b = true -> sizeT t <= most) /\ Below w.heap.size w w' := by
 have hA0 : VAt (w.alloc (.cells #[.int .i64 r.k, .int .i64 r.n, .string r.s, .slice r.pl r.nl r.cl, .slice r.pm r.nm r.cm] 25)) w.heap.size r := heap_alloc_at rfl
 have hB0 : Below w.heap.size w (w.alloc (.cells #[.int .i64 r.k, .int .i64 r.n, .string r.s, .slice r.pl r.nl r.cl, .slice r.pm r.nm r.cm] 25)) := (Below.refl _ _).alloc (Nat.le_refl _) _
 have HS : Hid (∀ W, Below w.heap.size w W -> Calls Tryz.prog 52 #[r.val, .int .i64 (most : Int)] W fun e w' => ∃ c : Nat, e = .returned (.int .i64 (c : Int)) /\ (c <= most + 140737488355328 /\ c <= sizeT t /\ (c <= most -> c = sizeT t)) /\ Below W.heap.size W w') := fun W hb => size20_any _ t r most W (Nat.le_refl _) hmost (ht.under hb hb.size) ot
 clear ht
 go_enter Tryz.func22, Tryz.ntmps22
 go_upto_region 1 with fail
 obtain ⟨W0, hW0⟩ : ∃ W0, (w.alloc (.cells #[.int .i64 r.k, .int .i64 r.n, .string r.s, .slice r.pl r.nl r.cl, .slice r.pm r.nm r.cm] 25)) = W0 := ⟨_, rfl⟩
 rw [hW0] at hA0 hB0 ⊢
 clear hW0
 obtain ⟨c0, c1, c2, c3, c4⟩ := hA0.cells5
 clear hA0
 go_wp2_with (go_at_call 52; (with_reducible refine (HS.out _ hB0).mono ?_); rintro e w1 ⟨d, rfl, hdd, hbA⟩; (have hb1 := hB0.trans (hbA.mono hB0.size)))
 go_ret
 refine ⟨_, rfl, fun h => ?_, hb1⟩
 have h2 : (d : Int) <= (most : Int) := of_decide_eq_true (by simpa using h)
 have := hdd.2.2 (by omega)
 omega
mutual
def chkT : JV -> Nat -> Nat -> Int × Nat
 | .mk k n s l m, d, p => if 16 < d then (51, p) else if 8192 < p + 1 then (53, p + 1) else if rightP k n s l.length (m.map (·.1)) = false then (1, p + 1) else
  if (chkL l (d + 1) (p + 1)).1 ≠ 0 then chkL l (d + 1) (p + 1) else chkM m (d + 1) (chkL l (d + 1) (p + 1)).2
def chkL : List JV -> Nat -> Nat -> Int × Nat
 | [], _, p => (0, p)
 | t :: l, d, p => if (chkT t d p).1 ≠ 0 then chkT t d p else chkL l d (chkT t d p).2
def chkM : List (ByteArray × JV) -> Nat -> Nat -> Int × Nat
 | [], _, p => (0, p)
 | (_, t) :: m, d, p => if (chkT t d p).1 ≠ 0 then chkT t d p else chkM m d (chkT t d p).2
end
theorem chkL_step {l : List JV} {j : Nat} {t : JV} (h : l[j]? = some t) (d p : Nat) : chkL (l.drop j) d p = if (chkT t d p).1 ≠ 0 then chkT t d p else chkL (l.drop (j + 1)) d (chkT t d p).2 := by
 obtain ⟨hj, rfl⟩ := List.getElem?_eq_some_iff.1 h
 rw [List.drop_eq_getElem_cons hj]
 rfl
theorem chkM_step {m : List (ByteArray × JV)} {j : Nat} {q : ByteArray × JV} (h : m[j]? = some q) (d p : Nat) : chkM (m.drop j) d p = if (chkT q.2 d p).1 ≠ 0 then chkT q.2 d p else chkM (m.drop (j + 1)) d (chkT q.2 d p).2 := by
 obtain ⟨hj, rfl⟩ := List.getElem?_eq_some_iff.1 h
 rw [List.drop_eq_getElem_cons hj]
 rfl
mutual
theorem chkT_ok : ∀ (t : JV) (d p : Nat), (chkT t d p).1 = 0 -> (chkT t d p).2 = p + countT t /\ p + countT t <= 8192
 | .mk k n s l m, d, p, h => by
   unfold chkT at h ⊢
   unfold countT
   split at h
   ·simp at h
   rename_i h1
   rw [if_neg h1]
   split at h
   ·simp at h
   rename_i h2
   rw [if_neg h2]
   split at h
   ·simp at h
   rename_i h3
   rw [if_neg h3]
   split at h
   ·rename_i h4
    exact absurd h h4
   ·rename_i h4
    rw [if_neg h4]
    have hl := chkL_ok l (d + 1) (p + 1) (by simpa using h4) (by omega)
    have hm := chkM_ok m (d + 1) _ h (by omega)
    rw [hm.1, hl.1]
    rw [hl.1] at hm
    omega
theorem chkL_ok : ∀ (l : List JV) (d p : Nat), (chkL l d p).1 = 0 -> p <= 8192 -> (chkL l d p).2 = p + countL l /\ p + countL l <= 8192
 | [], d, p, h, hp => by simp [chkL, countL]; omega
 | t :: l, d, p, h, hp => by
   unfold chkL at h ⊢
   unfold countL
   split at h
   ·rename_i h4
    exact absurd h h4
   ·rename_i h4
    rw [if_neg h4]
    have ht := chkT_ok t d p (by simpa using h4)
    have hl := chkL_ok l d _ h (by omega)
    rw [hl.1, ht.1]
    rw [ht.1] at hl
    omega
theorem chkM_ok : ∀ (m : List (ByteArray × JV)) (d p : Nat), (chkM m d p).1 = 0 -> p <= 8192 -> (chkM m d p).2 = p + countM m /\ p + countM m <= 8192
 | [], d, p, h, hp => by simp [chkM, countM]; omega
 | (_, t) :: l, d, p, h, hp => by
   unfold chkM at h ⊢
   unfold countM
   split at h
   ·rename_i h4
    exact absurd h h4
   ·rename_i h4
    rw [if_neg h4]
    have ht := chkT_ok t d p (by simpa using h4)
    have hl := chkM_ok l d _ h (by omega)
    rw [hl.1, ht.1]
    rw [ht.1] at hl
    omega
end
theorem _root_.Go.RowKit.Below.gb {w w' : World} (h : Below w.heap.size w w') (row : Option Nat) : w.grownBy w' row := ⟨h.os, h.tape, h.output, h.size, fun k hk _ => h.block k hk⟩
def CtAt (W : World) (g p : Nat) : Prop := W.heap[g]? = some (.cells #[.int .i64 p] 87 (0, 0))
theorem CtAt.lt {W : World} {g p : Nat} (h : CtAt W g p) : g < W.heap.size := (Array.getElem?_eq_some_iff.1 h).1
theorem CtAt.cell {W : World} {g p : Nat} (h : CtAt W g p) : W.cell? ⟨g, 0, none⟩ = some (.int .i64 p) := by
 unfold CtAt at h
 rw [cell_of_row W g 0 _ _ _ h]
 rfl
theorem CtAt.frozen {W : World} {g p : Nat} (h : CtAt W g p) : W.frozen? ⟨g, 0, none⟩ = false := by
 unfold CtAt at h
 simp [World.frozen?, h]
theorem CtAt.alloc {W : World} {g p : Nat} (h : CtAt W g p) (o : Obj) : CtAt (W.alloc o) g p := (Below.heap_alloc W o g h.lt).trans h
theorem CtAt.below {W W' : World} {g p : Nat} (h : CtAt W g p) (hb : Below W.heap.size W W') : CtAt W' g p := (hb.block g h.lt).trans h
def ChkRet (w : World) (g : Nat) (r : Int × Nat) (e : Ending) (w' : World) : Prop := e = .returned (.int .i64 r.1) /\ CtAt w' g r.2 /\ w.grownBy w' (some g)
theorem VAt.kept {W W' : World} {g x : Nat} {r : RV} (h : VAt W x r) (hg : W.grownBy W' (some g)) (hne : x ≠ g) : VAt W' x r := (hg.block x h.lt (by simpa using hne)).trans h
theorem chk_any (N : Nat) : ∀ (t : JV) (r : RV) (w : World) (B g d p : Nat), SizeOf.sizeOf t <= N -> TreeOf w B t r -> t.Ok -> B <= g -> CtAt w g p -> p <= 8192 -> d <= 17 ->
 Calls Tryz.prog 68 #[.pointer (some ⟨g, 0, none⟩), r.val, .int .i64 d] w (ChkRet w g (chkT t d p)) := by
 induction N with
 | zero => intro t r w B g d p hN; cases t; simp at hN
 | succ N ih =>
   intro t r w B g d p hN ht ot hBg hc hp hd
   cases ht with
   | @mk _ l m rs rms hl el hcl hm em hcn hcm =>
   obtain ⟨k, n, s, pl, nl, cl, pm, nm, cm⟩ := r
   cases ot with
   | mk _ _ bs bl bm okl oks okm =>
   dsimp only [RV.val] at *
   have eL := rd_nlen hl
   have eM := rd_nlen hm
   have hgw := hc.lt
   have HT : Hid (∀ (i : Nat) t q, l[i]? = some t -> rs[i]? = some q -> ∀ W (d' p' : Nat), w.grownBy W (some g) -> CtAt W g p' -> p' <= 8192 -> d' <= 17 -> Calls Tryz.prog 68 #[.pointer (some ⟨g, 0, none⟩), q.val, .int .i64 d'] W (ChkRet W g (chkT t d' p'))) :=
    fun i t q h1 h2 W d' p' hb hc' hp' hd' => ih t q W B g d' p' (by have := JV.lt_l (k := k) (n := n) (s := s) (m := m) h1; omega) ((hcl i t q h1 h2).under ((Below.refl B w).grown hb (by omega) (fun a e => by cases e; exact hBg)) (Nat.le_refl _)) (okl i t h1) hBg hc' hp' hd'
   have HS : Hid (∀ (i : Nat) q x, m[i]? = some q -> rms[i]? = some x -> ∀ W (d' p' : Nat), w.grownBy W (some g) -> CtAt W g p' -> p' <= 8192 -> d' <= 17 -> Calls Tryz.prog 68 #[.pointer (some ⟨g, 0, none⟩), x.v.val, .int .i64 d'] W (ChkRet W g (chkT q.2 d' p'))) :=
    fun i q x h1 h2 W d' p' hb hc' hp' hd' => ih q.2 x.v W B g d' p' (by have := JV.lt_m (k := k) (n := n) (s := s) (l := l) h1; omega) ((hcm i q x h1 h2).under ((Below.refl B w).grown hb (by omega) (fun a e => by cases e; exact hBg)) (Nat.le_refl _)) (okm i q h1) hBg hc' hp' hd'
   have hnl : nl <= 1759218604390 := by omega
   have hnm : nm <= 1466015503658 := by omega
   have hnames : rms.map (·.name) = m.map (·.1) := by
    apply List.ext_getElem?
    intro i
    rw [List.getElem?_map, List.getElem?_map]
    cases h1 : m[i]? with
    | none =>
      have : rms[i]? = none := by rw [List.getElem?_eq_none_iff] at h1 ⊢; omega
      rw [this]; rfl
    | some a =>
      obtain ⟨b, hb⟩ : ∃ b, rms[i]? = some b := ⟨_, List.getElem?_eq_getElem (by have := (List.getElem?_eq_some_iff.1 h1).1; omega)⟩
      rw [hb]
      simp [hcn i a b h1 hb]
   have hsz : ∀ (i : Nat) q, rms[i]? = some q -> q.name.size <= maxLen := by
    intro i q hq
    obtain ⟨b, hb⟩ : ∃ b, m[i]? = some b := ⟨_, List.getElem?_eq_getElem (by have := (List.getElem?_eq_some_iff.1 hq).1; omega)⟩
    rw [<- hcn i b q hb hq]
    have := oks i b hb
    unfold maxLen; omega
   have hR : ∀ W, Below B w W -> B <= W.heap.size -> Calls Tryz.prog 101 #[.agg #[.int .i64 k, .int .i64 n, .string s, .slice pl nl cl, .slice pm nm cm]] W fun e w' => e = .returned (.bool (rightP k n s l.length (m.map (·.1)))) /\ Below W.heap.size W w' := fun W hb hz => by
    rw [<- hnames, show l.length = nl by omega]
    exact rightV_any ⟨k, n, s, pl, nl, cl, pm, nm, cm⟩ rms W (hm.below hb hz) hsz hnm (by show s.size <= _; unfold maxLen; omega)
   have HR := Lib.hid hR
   have HL := Lib.hid hl
   have HM := Lib.hid hm
   have E1 : Hid (l.length = nl /\ rs.length = nl) := ⟨by omega, by omega⟩
   have E2 : Hid (m.length = nm /\ rms.length = nm) := ⟨by omega, by omega⟩
   have hA0 : VAt (w.alloc (.cells #[.int .i64 k, .int .i64 n, .string s, .slice pl nl cl, .slice pm nm cm] 25)) w.heap.size ⟨k, n, s, pl, nl, cl, pm, nm, cm⟩ := heap_alloc_at rfl
   have hG0 : w.grownBy (w.alloc (.cells #[.int .i64 k, .int .i64 n, .string s, .slice pl nl cl, .slice pm nm cm] 25)) (some g) := World.grownBy_alloc _ _ _
   have hC0 := hc.alloc (.cells #[.int .i64 k, .int .i64 n, .string s, .slice pl nl cl, .slice pm nm cm] 25)
   clear ih hcl hcn hcm hl hm okl oks okm el em bl bm eL eM hN hR hnames hsz hc bs
   by_cases hd16 : 16 < d
   ·have HX : Hid (chkT (.mk k n s l m) d p = (51, p)) := by unfold Hid chkT; rw [if_pos hd16]
    have HC := Lib.hid hC0
    have HG := Lib.hid hG0
    clear hA0 hC0 hG0
    go_enter Tryz.func68, Tryz.ntmps68
    go_wp2_with fail
    go_ret
    exact ⟨ret_int (by rw [HX.out]), by rw [HX.out]; exact HC.out, HG.out⟩
   ·go_enter Tryz.func68, Tryz.ntmps68
    go_upto_region 3 with fail
    obtain ⟨W0, hW0⟩ : ∃ W0, (w.alloc (.cells #[.int .i64 k, .int .i64 n, .string s, .slice pl nl cl, .slice pm nm cm] 25)) = W0 := ⟨_, rfl⟩
    rw [hW0] at hA0 hG0 hC0 ⊢
    clear hW0
    have c0 := hC0.cell
    have c1 := hC0.frozen
    have hA1 : VAt (W0.setCell ⟨g, 0, none⟩ (.int .i64 ((p + 1 : Nat) : Int))) w.heap.size ⟨k, n, s, pl, nl, cl, pm, nm, cm⟩ := hA0.kept (grownBy_set W0 g 0 _) (by omega)
    have hG1 : w.grownBy (W0.setCell ⟨g, 0, none⟩ (.int .i64 ((p + 1 : Nat) : Int))) (some g) := hG0.trans (grownBy_set W0 g 0 _)
    have hC1 : CtAt (W0.setCell ⟨g, 0, none⟩ (.int .i64 ((p + 1 : Nat) : Int))) g (p + 1) := by
     have h := hC0
     unfold CtAt at h ⊢
     simp [World.setCell, Array.getElem?_modify, h]
    have hp0 : (0 : Int) <= (p : Int) := Int.natCast_nonneg _
    have hp1 : (p : Int) <= 8192 := by omega
    have hd0 : (0 : Int) <= (d : Int) := Int.natCast_nonneg _
    have hd1 : (d : Int) <= 16 := by omega
    have hw1 : W0.setCell ⟨g, 0, none⟩ (.int .i64 ((p : Int) + 1)) = W0.setCell ⟨g, 0, none⟩ (.int .i64 ((p + 1 : Nat) : Int)) := by rw [show ((p : Int) + 1) = ((p + 1 : Nat) : Int) by omega]
    go_upto_region 4 with fail
    clear hw1 c0 c1 hA0 hG0 hC0
    obtain ⟨W1, hW1⟩ : ∃ W1, W0.setCell ⟨g, 0, none⟩ (.int .i64 ((p + 1 : Nat) : Int)) = W1 := ⟨_, rfl⟩
    rw [hW1] at hA1 hG1 hC1 ⊢
    clear hW1 W0
    have c0 := hC1.cell
    have HC := Lib.hid hC1
    have HG := Lib.hid hG1
    have HA := Lib.hid hA1
    clear hC1 hG1
    by_cases hp8 : 8192 < p + 1
    ·have HX : Hid (chkT (.mk k n s l m) d p = (53, p + 1)) := by unfold Hid chkT; rw [if_neg hd16, if_pos hp8]
     have hq : decide ((8192 : Int) < ((p + 1 : Nat) : Int)) = true := by simp; omega
     clear hA1
     go_wp2_with fail
     go_ret
     exact ⟨ret_int (by rw [HX.out]), by rw [HX.out]; exact HC.out, HG.out⟩
    ·have hq : decide ((8192 : Int) < ((p + 1 : Nat) : Int)) = false := by simp; omega
     obtain ⟨a0, a1, a2, a3, a4⟩ := hA1.cells5
     dsimp only at a0 a1 a2 a3 a4
     clear hA1
     have hz := HA.out.lt
     have hBW : Below B w W1 := (Below.refl B w).grown HG.out (by omega) (fun a e => by cases e; exact hBg)
     have HR2 := Lib.hid (HR.out W1 hBW (by omega))
     have HBW := Lib.hid hBW
     clear HR hBW
     cases hr : rightP k n s l.length (m.map (·.1)) with
     | false =>
       have HX : Hid (chkT (.mk k n s l m) d p = (1, p + 1)) := by unfold Hid chkT; rw [if_neg hd16, if_neg hp8, if_pos hr]
       rw [hr] at HR2
       clear hr
       go_wp2_with (go_at_call 101; refine HR2.out.mono ?_; rintro e w1 ⟨rfl, hb1⟩)
       go_ret
       exact ⟨ret_int (by rw [HX.out]), by rw [HX.out]; exact HC.out.below hb1, HG.out.trans (hb1.gb _)⟩
     | true =>
       rw [hr] at HR2
       have HX : Hid (chkT (.mk k n s l m) d p = if (chkL l (d + 1) (p + 1)).1 ≠ 0 then chkL l (d + 1) (p + 1) else chkM m (d + 1) (chkL l (d + 1) (p + 1)).2) := by
        unfold Hid; rw [chkT, if_neg hd16, if_neg hp8, if_neg (by rw [hr]; decide)]
       clear hr
       go_upto_region 8 with (go_at_call 101; refine HR2.out.mono ?_; rintro e w1 ⟨rfl, hb1⟩)
       have HA1 := HA.out.under hb1 HA.out.lt
       have HC1 := HC.out.below hb1
       have HG1 := HG.out.trans (hb1.gb _)
       have hz1 := HG1.size
       clear HA HC HG HR2 c0 a0 a1 a2 a3 a4 hb1 HBW hz hp1 hp0
       obtain ⟨W2, hW2⟩ : ∃ W2, w1 = W2 := ⟨_, rfl⟩
       rw [hW2] at HA1 HC1 HG1 hz1 ⊢
       clear hW2 w1
       have HA := Lib.hid HA1
       have HG := Lib.hid HG1
       have hz2 := HA1.lt
       obtain ⟨a0, a1, a2, a3, a4⟩ := HA1.cells5
       dsimp only at a0 a1 a2 a3 a4
       have hp9 : p + 1 <= 8192 := by omega
       clear HA1 HG1 hp8 hd16 hp
       have HGW : Hid (B <= w.heap.size) := by unfold Hid; omega
       have HNE : Hid (w.heap.size ≠ g) := by unfold Hid; omega
       obtain ⟨R1, hR1⟩ : ∃ R, chkL l (d + 1) (p + 1) = R := ⟨_, rfl⟩
       rw [hR1] at HX
       have HR1 := Lib.hid hR1
       clear hR1
       go_wp2_with fail
       go_loopw [33] (fun i wr => ∃ (j q : Nat), j <= nl /\ i = .int .i64 j /\ q <= 8192 /\ CtAt wr g q /\ Hid (chkL (l.drop j) (d + 1) q = R1) /\ Hid (W2.grownBy wr (some g))) (fun i _ => nl - (intOf i).toNat)
       case atStart => exact ⟨0, p + 1, Nat.zero_le _, rfl, hp9, HC1, HR1, World.grownBy.refl _ _⟩
       case round =>
        obtain ⟨j, q, hj, rfl, hq8, hcr, hrr, hgr⟩ := hrel
        have hGw := HG.out.trans hgr.out
        by_cases hlt : j < nl
        ·obtain ⟨tx, htx⟩ : ∃ x, l[j]? = some x := ⟨_, List.getElem?_eq_getElem (by have := E1.out; omega)⟩
         obtain ⟨x, hx⟩ : ∃ x, rs[j]? = some x := ⟨_, List.getElem?_eq_getElem (by have := E1.out; omega)⟩
         have hbw : Below B w wr := (Below.refl B w).grown hGw HGW.out (fun a e => by cases e; exact hBg)
         obtain ⟨b1, o1, rfl, hb1, hc1⟩ := rd_at' (HL.out.below hbw (Nat.le_refl _)) hx
         have f0 := hc1 0 _ rfl
         have f1 := hc1 1 _ rfl
         have f2 := hc1 2 _ rfl
         have f3 := hc1 3 _ rfl
         have f4 := hc1 4 _ rfl
         rw [Nat.add_zero] at f0
         have hst := chkL_step htx (d + 1) q
         rw [hrr.out] at hst
         have hGx : w.grownBy (wr.alloc (.cells #[.int .i64 x.k, .int .i64 x.n, .string x.s, .slice x.pl x.nl x.cl, .slice x.pm x.nm x.cm] 25)) (some g) := hGw.trans (World.grownBy_alloc _ _ _)
         have hH := HT.out j tx x htx hx _ (d + 1) q hGx (hcr.alloc _) hq8 (by omega)
         have HG2 : Hid (W2.grownBy (wr.alloc (.cells #[.int .i64 x.k, .int .i64 x.n, .string x.s, .slice x.pl x.nl x.cl, .slice x.pm x.nm x.cm] 25)) (some g)) := hgr.out.trans (World.grownBy_alloc _ _ _)
         have hk0 : (0 : Int) <= (j : Int) := Int.natCast_nonneg _
         have hk1 : (j : Int) < (nl : Int) := by omega
         have hok := chkT_ok tx (d + 1) q
         generalize chkT tx (d + 1) q = RR at hst hH hok
         obtain ⟨ev, pv⟩ := RR
         dsimp only at hst hok
         have HH := Lib.hid hH
         clear hc1 htx hx hH hGx hbw hGw hcr hrr hgr
         by_cases hev : ev = 0
         ·have hpv : pv <= 8192 := by have := hok hev; omega
          rw [if_neg (by simpa using hev)] at hst
          have HST := Lib.hid hst
          subst hev
          clear hst hok
          go_wp2_with (go_at_call 68; refine HH.out.mono ?_; rintro e w3 ⟨rfl, hc3, hg3⟩; have HG3 := Lib.hid (HG2.out.trans hg3); clear hg3)
          go_roundw
          case rel => exact ⟨j + 1, pv, by omega, by go_num, hpv, hc3, HST.out.symm, HG3⟩
          case measure => simp [intOf]; omega
         ·rw [if_pos (by simpa using hev)] at hst
          have HST := Lib.hid hst
          have hq1 : (ev != 0) = true := by simpa using hev
          have hq2 : (ev == 0) = false := by simpa using hev
          have HXX : Hid (chkT (.mk k n s l m) d p = (ev, pv)) := by
           unfold Hid
           rw [HX.out, HST.out, if_pos (by simpa using hev)]
          clear hst hok hev
          go_wp2_with (go_at_call 68; refine HH.out.mono ?_; rintro e w3 ⟨rfl, hc3, hg3⟩; have HG3 := Lib.hid (HG2.out.trans hg3); clear hg3; have HC3 := Lib.hid hc3; clear hc3)
          go_ret
          exact ⟨ret_int (by rw [HXX.out]), by rw [HXX.out]; exact HC3.out, HG.out.trans HG3.out⟩
        ·obtain rfl : j = nl := by omega
         have hR1 : R1 = (0, q) := by
          have h := hrr.out
          rw [List.drop_of_length_le (by have := E1.out; omega)] at h
          exact h.symm
         have hXX : chkT (.mk k n s l m) d p = chkM m (d + 1) q := by
          rw [HX.out, hR1]; rfl
         clear hR1
         have c4 := (HA.out.kept hgr.out HNE.out).cell 4 rfl
         dsimp only at c4
         clear a0 a1 a2 a3 a4 HX hrr HR1
         obtain ⟨R2, hR2⟩ : ∃ R, chkM m (d + 1) q = R := ⟨_, rfl⟩
         rw [hR2] at hXX
         have HX := Lib.hid hXX
         have HR2 := Lib.hid hR2
         have HG4 := Lib.hid (HG.out.trans hgr.out)
         have hzz : w.heap.size < wr.heap.size := by have := hgr.out.size; omega
         clear hXX hR2 hGw hgr HC1 HT E1 HL
         obtain ⟨W3, hW3⟩ : ∃ W3, wr = W3 := ⟨_, rfl⟩
         rw [hW3] at c4 hcr HG4 hzz ⊢
         clear hW3 wr
         go_wp2_with fail
         go_loopw [49] (fun i wr => ∃ (j q : Nat), j <= nm /\ i = .int .i64 j /\ q <= 8192 /\ CtAt wr g q /\ Hid (chkM (m.drop j) (d + 1) q = R2) /\ Hid (W3.grownBy wr (some g))) (fun i _ => nm - (intOf i).toNat)
         case atStart => exact ⟨0, q, Nat.zero_le _, rfl, hq8, hcr, HR2, World.grownBy.refl _ _⟩
         case round =>
          obtain ⟨j, q, hj, rfl, hq8, hcr, hrr, hgr⟩ := hrel
          have hGw := HG4.out.trans hgr.out
          by_cases hlt : j < nm
          ·obtain ⟨tx, htx⟩ : ∃ x, m[j]? = some x := ⟨_, List.getElem?_eq_getElem (by have := E2.out; omega)⟩
           obtain ⟨x, hx⟩ : ∃ x, rms[j]? = some x := ⟨_, List.getElem?_eq_getElem (by have := E2.out; omega)⟩
           have hbw : Below B w wr := (Below.refl B w).grown hGw HGW.out (fun a e => by cases e; exact hBg)
           obtain ⟨b1, o1, rfl, hb1, hc1⟩ := rd_at' (HM.out.below hbw (Nat.le_refl _)) hx
           have f0 := hc1 0 _ rfl
           have f1 := hc1 1 _ rfl
           have f2 := hc1 2 _ rfl
           have f3 := hc1 3 _ rfl
           have f4 := hc1 4 _ rfl
           have f5 := hc1 5 _ rfl
           rw [Nat.add_zero] at f0
           have hst := chkM_step htx (d + 1) q
           rw [hrr.out] at hst
           have hGx : w.grownBy (wr.alloc (.cells #[.string x.name, .int .i64 x.v.k, .int .i64 x.v.n, .string x.v.s, .slice x.v.pl x.v.nl x.v.cl, .slice x.v.pm x.v.nm x.v.cm] 32)) (some g) := hGw.trans (World.grownBy_alloc _ _ _)
           have hH := HS.out j tx x htx hx _ (d + 1) q hGx (hcr.alloc _) hq8 (by omega)
           have HG2 : Hid (W3.grownBy (wr.alloc (.cells #[.string x.name, .int .i64 x.v.k, .int .i64 x.v.n, .string x.v.s, .slice x.v.pl x.v.nl x.v.cl, .slice x.v.pm x.v.nm x.v.cm] 32)) (some g)) := hgr.out.trans (World.grownBy_alloc _ _ _)
           have hk0 : (0 : Int) <= (j : Int) := Int.natCast_nonneg _
           have hk1 : (j : Int) < (nm : Int) := by omega
           have hok := chkT_ok tx.2 (d + 1) q
           generalize chkT tx.2 (d + 1) q = RR at hst hH hok
           obtain ⟨ev, pv⟩ := RR
           dsimp only at hst hok
           have HH := Lib.hid hH
           clear hc1 htx hx hH hGx hbw hGw hcr hrr hgr
           by_cases hev : ev = 0
           ·have hpv : pv <= 8192 := by have := hok hev; omega
            rw [if_neg (by simpa using hev)] at hst
            have HST := Lib.hid hst
            subst hev
            clear hst hok
            go_wp2_with (go_at_call 68; refine HH.out.mono ?_; rintro e w3 ⟨rfl, hc3, hg3⟩; have HG3 := Lib.hid (HG2.out.trans hg3); clear hg3)
            go_roundw
            case rel => exact ⟨j + 1, pv, by omega, by go_num, hpv, hc3, HST.out.symm, HG3⟩
            case measure => simp [intOf]; omega
           ·rw [if_pos (by simpa using hev)] at hst
            have HST := Lib.hid hst
            have hq1 : (ev != 0) = true := by simpa using hev
            have hq2 : (ev == 0) = false := by simpa using hev
            have HXX : Hid (chkT (.mk k n s l m) d p = (ev, pv)) := by
             unfold Hid
             rw [HX.out, HST.out]
            clear hst hok hev
            go_wp2_with (go_at_call 68; refine HH.out.mono ?_; rintro e w3 ⟨rfl, hc3, hg3⟩; have HG3 := Lib.hid (HG2.out.trans hg3); clear hg3; have HC3 := Lib.hid hc3; clear hc3)
            go_ret
            exact ⟨ret_int (by rw [HXX.out]), by rw [HXX.out]; exact HC3.out, HG4.out.trans HG3.out⟩
          ·obtain rfl : j = nm := by omega
           have HXX : Hid (chkT (.mk k n s l m) d p = (0, q)) := by
            have h := hrr.out
            rw [List.drop_of_length_le (by have := E2.out; omega)] at h
            unfold Hid
            rw [HX.out, <- h]; rfl
           have HC3 := Lib.hid hcr
           clear hcr
           go_wp2_with fail
           go_ret
           exact ⟨ret_int (by rw [HXX.out]), by rw [HXX.out]; exact HC3.out, HG4.out.trans hgr.out⟩
def checkE (t : JV) : Int := (chkT t 1 0).1
theorem check_any (t : JV) (r : RV) (w : World) (ht : TreeOf w w.heap.size t r) (ot : t.Ok) :
 Calls Tryz.prog 33 #[r.val] w fun e w' => e = .returned (.int .i64 (checkE t)) /\ Below w.heap.size w w' := by
 have HT := Lib.hid ht
 have HO := Lib.hid ot
 clear ht ot
 obtain ⟨k, n, s, pl, nl, cl, pm, nm, cm⟩ := r
 dsimp only [RV.val] at *
 have hB0 : Below w.heap.size w ((w.alloc (.cells #[.int .i64 k, .int .i64 n, .string s, .slice pl nl cl, .slice pm nm cm] 25)).alloc (.cells #[.int .i64 0] 87)) := ((Below.refl _ _).alloc (Nat.le_refl _) _).alloc (by simp) _
 have hC : CtAt ((w.alloc (.cells #[.int .i64 k, .int .i64 n, .string s, .slice pl nl cl, .slice pm nm cm] 25)).alloc (.cells #[.int .i64 0] 87)) (w.heap.size + 1) 0 := by
  have := @heap_alloc_at (w.alloc (.cells #[.int .i64 k, .int .i64 n, .string s, .slice pl nl cl, .slice pm nm cm] 25)) (.cells #[.int .i64 0] 87) _ rfl
  simpa [CtAt] using this
 have HH := Lib.hid (chk_any _ t ⟨k, n, s, pl, nl, cl, pm, nm, cm⟩ _ w.heap.size (w.heap.size + 1) 1 0 (Nat.le_refl _) (HT.out.under hB0 (Nat.le_refl _)) HO.out (by omega) hC (by omega) (by omega))
 have HB := Lib.hid hB0
 clear hC hB0
 go_enter Tryz.func33, Tryz.ntmps33
 go_wp2_with (go_at_call 68; refine HH.out.mono ?_; rintro e w3 ⟨rfl, hc3, hg3⟩)
 go_ret
 exact ⟨rfl, HB.out.grown hg3 (by simp; omega) (fun a e => by cases e; omega)⟩
end
section
open Go Go.RowKit
def ownName : ByteArray := ⟨#[101, 120, 97, 109, 112, 108, 101, 46, 99, 111, 109, 58, 111, 119, 110]⟩
def putT (t : JV) (name : ByteArray) (x : JV) : JV := .mk 6 0 ⟨#[]⟩ [] (putM (t.place name) t.mem name x)
theorem getF_find (ms : List (ByteArray × JV)) (n : Int) (s : ByteArray) (l : List JV) (name : ByteArray) : (JV.mk 6 n s l ms).get name = (ms.find? (fun p => decide (p.1 = name))).map (·.2) := by
 rw [getS_mOf (t := JV.mk 6 n s l ms) rfl]
 rfl
theorem getF_mem (t : JV) (name : ByteArray) : t.get name = (t.mem.find? (fun p => decide (p.1 = name))).map (·.2) := by
 rw [<- getF_find t.mem 0 ⟨#[]⟩ [] name]
 rfl
theorem getF_put (t : JV) (name other : ByteArray) (x : JV) (h : other ≠ name) : (putT t name x).get other = t.get other := by
 rw [getF_mem, getF_mem]
 show (List.find? _ (putM (t.place name) t.mem name x)).map (·.2) = _
 cases hp : t.place name with
 | some i =>
   have h0 := hp
   unfold JV.place at h0
   rw [List.findIdx?_eq_some_iff_getElem] at h0
   obtain ⟨h1, h2, _⟩ := h0
   have h2 : t.mem[i].1 = name := by simpa using h2
   unfold putM
   dsimp only
   congr 1
   have e1 : t.mem = t.mem.take i ++ t.mem[i] :: t.mem.drop (i + 1) := by rw [List.getElem_cons_drop, List.take_append_drop]
   have e2 : t.mem.set i (name, x) = t.mem.take i ++ (name, x) :: t.mem.drop (i + 1) := List.set_eq_take_append_cons_drop .. |>.trans (by rw [if_pos h1])
   rw [e2]
   conv => rhs; rw [e1]
   rw [List.find?_append, List.find?_append, List.find?_cons_of_neg (by simpa using fun e => h e.symm), List.find?_cons_of_neg (by simpa [h2] using fun e => h e.symm)]
 | none =>
   unfold putM
   dsimp only
   rw [List.find?_append, List.find?_cons_of_neg (by simpa using fun e => h e.symm)]
   simp
theorem key_inj {ns : List (ByteArray × JV)} : (ns.map (·.1)).Nodup -> ∀ x ∈ ns, ∀ y ∈ ns, x.1 = y.1 -> x = y := by
 induction ns with
 | nil => intro _ x hx; cases hx
 | cons a r ih =>
   intro hn x hx y hy e
   rw [List.map_cons, List.nodup_cons] at hn
   obtain ⟨h1, h2⟩ := hn
   rcases List.mem_cons.1 hx with hxa | hx
   ·rcases List.mem_cons.1 hy with hya | hy
    ·rw [hxa, hya]
    ·exact absurd (List.mem_map.2 ⟨y, hy, by rw [<- e, hxa]⟩) h1
   ·rcases List.mem_cons.1 hy with hya | hy
    ·exact absurd (List.mem_map.2 ⟨x, hx, by rw [e, hya]⟩) h1
    ·exact ih h2 x hx y hy e
theorem find_perm {ms ns : List (ByteArray × JV)} (h : ms.Perm ns) (hn : (ns.map (·.1)).Nodup) (n : ByteArray) : ms.find? (fun p => decide (p.1 = n)) = ns.find? (fun p => decide (p.1 = n)) := by
 cases hx : ms.find? (fun p => decide (p.1 = n)) with
 | none =>
   rw [List.find?_eq_none] at hx
   symm
   rw [List.find?_eq_none]
   exact fun p hp => hx p (h.mem_iff.2 hp)
 | some x =>
   have h1 := List.find?_some hx
   have h2 := List.mem_of_find?_eq_some hx
   cases hy : ns.find? (fun p => decide (p.1 = n)) with
   | none =>
     rw [List.find?_eq_none] at hy
     exact absurd h1 (hy x (h.mem_iff.1 h2))
   | some y =>
     have h3 := List.find?_some hy
     have h4 := List.mem_of_find?_eq_some hy
     rw [key_inj hn x (h.mem_iff.1 h2) y h4 ((of_decide_eq_true h1).trans (of_decide_eq_true h3).symm)]
theorem nodup_of_check {t : JV} (h : checkE t = 0) (hk : t.k = 6) (hc : countT t <= 8000) : (t.m.map (·.1)).Nodup := by
 have hlen : t.m.length <= 8000 := by
  have h1 := countT_m t
  have h2 := countL_len (t.m.map (·.2))
  rw [List.length_map] at h2
  omega
 cases t with
 | mk k n s l m =>
   change k = 6 at hk
   change m.length <= 8000 at hlen
   show (m.map (·.1)).Nodup
   have hr : rightP k n s l.length (m.map (·.1)) = true := by
    cases hr : rightP k n s l.length (m.map (·.1)) with
    | true => rfl
    | false =>
      unfold checkE chkT at h
      rw [if_neg (by decide), if_neg (by decide), if_pos hr] at h
      cases h
   unfold rightP at hr
   simp only [Bool.and_eq_true] at hr
   have h6 := hr.2
   rw [hk] at h6
   have h7 : goodN (m.map (·.1)) = true := by
    have h8 : decide (8192 < (m.map (·.1)).length) = false := by rw [List.length_map]; exact decide_eq_false (by omega)
    rw [h8] at h6
    simpa using h6
   unfold goodN at h7
   rw [Bool.and_eq_true, decide_eq_true_iff] at h7
   exact h7.2
def Alike (u v : JV) : Prop := ∀ n, n ≠ ownName -> u.get n = v.get n
theorem alike_turned {v : JV} (hk : v.k = 6) (hn : (v.m.map (·.1)).Nodup) {n : Int} {s : ByteArray} {l : List JV} {ms : List (ByteArray × JV)} (h : ms.Perm v.m) (x : JV) : Alike (putT (.mk 6 n s l ms) ownName x) v := by
 intro nm hne
 rw [getF_put _ _ _ _ hne, getF_find, getF_mem, memS_six hk, find_perm h hn]
section
variable {u v : JV} (h : Alike u v)
include h
theorem alike_textM {n : ByteArray} (hn : n ≠ ownName) : textM u n = textM v n := by unfold textM; rw [h n hn]
theorem alike_each {n : ByteArray} (hn : n ≠ ownName) : eachJ u n = eachJ v n := by unfold eachJ; rw [h n hn]
theorem alike_has {n : ByteArray} (hn : n ≠ ownName) (s : ByteArray) : hasJ u n s = hasJ v n s := by unfold hasJ; rw [h n hn]
theorem alike_ahead {n : ByteArray} (hn : n ≠ ownName) (s : ByteArray) : aheadO u n s = aheadO v n s := by unfold aheadO; rw [alike_textM h hn]
theorem alike_name : nameV u = nameV v := by unfold nameV; rw [h nameN (by decide)]
theorem alike_field (f : ByteArray) : fieldJ u f = fieldJ v f := by
 unfold fieldJ namedJ
 rw [alike_name h, alike_each h (by decide : svNicks ≠ ownName), alike_each h (by decide : svOrgs ≠ ownName), alike_each h (by decide : svEmails ≠ ownName), alike_each h (by decide : svPhones ≠ ownName), alike_each h (by decide : svOnlines ≠ ownName), alike_each h (by decide : svAddrs ≠ ownName), alike_each h (by decide : svNotes ≠ ownName)]
theorem alike_texts (f : ByteArray) : textsJ u f = textsJ v f := by
 unfold textsJ
 rw [alike_field h f, show fieldJ u = fieldJ v from funext (alike_field h)]
theorem alike_cond (n s : ByteArray) : condB u n s = condB v n s := by
 unfold condB
 rw [alike_has h (by decide : svBookIds ≠ ownName), alike_textM h (by decide : svUid ≠ ownName), alike_has h (by decide : svMembers ≠ ownName), h kindN (by decide), alike_textM h (by decide : kindN ≠ ownName), alike_ahead h (by decide : createdN ≠ ownName), alike_ahead h (by decide : updatedN ≠ ownName), alike_texts h]
theorem alike_hol (N : Nat) : ∀ t : JV, SizeOf.sizeOf t <= N -> holF u t = holF v t := by
 induction N with
 | zero => intro t hN; cases t; simp at hN
 | succ N ih =>
   intro t hN
   rw [holF_eq, holF_eq]
   cases t.get svOper with
   | none =>
     dsimp only
     congr 1
     funext p
     exact alike_cond h p.1 p.2.s
   | some o =>
     dsimp only
     congr 1
     exact List.map_congr_left (fun x hx => ih x (by have := condsL_lt hx; omega))
end
theorem alike_holds {u v : JV} (h : Alike u v) (hu : u.k = 6) (hv : v.k = 6) (f : JV) : holdsJ f u = holdsJ f v := by
 unfold holdsJ
 rw [hu, hv, alike_hol h _ f (Nat.le_refl _)]
theorem countM_perm {a b : List (ByteArray × JV)} (h : a.Perm b) : countM a = countM b := by
 induction h with
 | nil => rfl
 | cons x _ ih => obtain ⟨n, t⟩ := x; unfold countM; rw [ih]
 | swap x y l => obtain ⟨n, t⟩ := x; obtain ⟨n2, t2⟩ := y; unfold countM; unfold countM; omega
 | trans _ _ h1 h2 => exact h1.trans h2
theorem sizeM_perm {a b : List (ByteArray × JV)} (h : a.Perm b) : sizeM a = sizeM b := by
 induction h with
 | nil => rfl
 | cons x _ ih => obtain ⟨n, t⟩ := x; unfold sizeM; rw [ih]
 | swap x y l => obtain ⟨n, t⟩ := x; obtain ⟨n2, t2⟩ := y; unfold sizeM; unfold sizeM; omega
 | trans _ _ h1 h2 => exact h1.trans h2
theorem countM_set (m : List (ByteArray × JV)) (i : Nat) (p : ByteArray × JV) : countM (m.set i p) <= countM m + countT p.2 := by
 induction m generalizing i with
 | nil => simp [countM]
 | cons a r ih =>
   obtain ⟨n, t⟩ := a
   cases i with
   | zero => obtain ⟨n2, t2⟩ := p; simp only [List.set_cons_zero]; unfold countM; omega
   | succ i => simp only [List.set_cons_succ]; unfold countM; have := ih i; omega
theorem sizeM_set (m : List (ByteArray × JV)) (i : Nat) (p : ByteArray × JV) : sizeM (m.set i p) <= sizeM m + sizeT p.2 := by
 induction m generalizing i with
 | nil => simp [sizeM]
 | cons a r ih =>
   obtain ⟨n, t⟩ := a
   cases i with
   | zero => obtain ⟨n2, t2⟩ := p; simp only [List.set_cons_zero]; unfold sizeM; omega
   | succ i => simp only [List.set_cons_succ]; unfold sizeM; have := ih i; omega
theorem countM_app (a b : List (ByteArray × JV)) : countM (a ++ b) = countM a + countM b := by
 induction a with
 | nil => simp [countM]
 | cons x r ih =>
   obtain ⟨n, t⟩ := x
   show countT t + countM (r ++ b) = countT t + countM r + countM b
   rw [ih]
   omega
theorem sizeM_app (a b : List (ByteArray × JV)) : sizeM (a ++ b) = sizeM a + sizeM b := by
 induction a with
 | nil => simp [sizeM]
 | cons x r ih =>
   obtain ⟨n, t⟩ := x
   show sizeT t + sizeM (r ++ b) = sizeT t + sizeM r + sizeM b
   rw [ih]
   omega
theorem count_put (t : JV) (x : JV) (name : ByteArray) : countT (putT t name x) <= 1 + countM t.mem + countT x := by
 unfold putT putM
 split
 ·rename_i i hi
  rw [countT]; have := countM_set t.mem i (name, x); simp only [countL] at this ⊢; omega
 ·rw [countT, countM_app]; simp only [countL, countM]; omega
theorem size_put (t : JV) (x : JV) (name : ByteArray) : sizeT (putT t name x) <= sizeM t.mem + sizeT x := by
 unfold putT putM
 have h0 : (⟨#[]⟩ : ByteArray).size = 0 := rfl
 split
 ·rename_i i hi
  rw [sizeT]; have := sizeM_set t.mem i (name, x); simp only [sizeL] at this ⊢; omega
 ·rw [sizeT, sizeM_app]; simp only [sizeL, sizeM]; omega
theorem put_okT {t x : JV} {name : ByteArray} (hm : ∀ p ∈ t.mem, p.1.size <= 140737488351232 /\ p.2.Ok) (ox : x.Ok) (hn : name.size <= 140737488351232) (hl : t.mem.length <= 10000) : (putT t name x).Ok := by
 have key : ∀ ms : List (ByteArray × JV), ms.length <= 1466015503658 -> (∀ p ∈ ms, p.1.size <= 140737488351232 /\ p.2.Ok) -> (JV.mk 6 0 ⟨#[]⟩ [] ms).Ok := fun ms h0 h1 =>
  .mk (by decide) (by decide) (by decide) (by decide) h0 (fun i x h => by simp at h) (fun i p h => (h1 p (List.mem_of_getElem? h)).1) (fun i p h => (h1 p (List.mem_of_getElem? h)).2)
 unfold putT putM
 split
 ·refine key _ (by rw [List.length_set]; omega) (fun p hp => ?_)
  rcases List.mem_or_eq_of_mem_set hp with h | rfl
  ·exact hm p h
  ·exact ⟨hn, ox⟩
 ·refine key _ (by simp; omega) (fun p hp => ?_)
  rw [List.mem_append, List.mem_singleton] at hp
  rcases hp with h | rfl
  ·exact hm p h
  ·exact ⟨hn, ox⟩
end
end Go.Proofs.YtffhccmppdgmfaaGreatDoor
