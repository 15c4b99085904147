import Derived.Test.YtanemojiaahbgaaGreatDoorSf02
import Derived.Test.YtanemojiaahbgaaGreatDoorSf18
section
/- tree.Count: how many values a tree has. -/
set_option linter.unusedSimpArgs false
set_option linter.unusedVariables false
namespace Go.Proofs.YtanemojiaahbgaaGreatDoor
open Go.RowKit Go.OpenShut

mutual
/-- How many values a tree has. -/
def countT : JV → Nat
  | .mk _ _ _ l m => 1 + countL l + countM m
def countL : List JV → Nat
  | [] => 0
  | t :: l => countT t + countL l
def countM : List (ByteArray × JV) → Nat
  | [] => 0
  | (_, t) :: m => countT t + countM m
end
theorem countL_take {l : List JV} {j : Nat} {t : JV} (h : l[j]? = some t) : countL (l.take (j + 1)) = countL (l.take j) + countT t := by
  induction l generalizing j with
  | nil => simp at h
  | cons a l ih =>
    cases j with
    | zero =>
      simp at h
      subst h
      simp [countL]
    | succ j =>
      rw [List.getElem?_cons_succ] at h
      rw [List.take_succ_cons, List.take_succ_cons]
      unfold countL
      rw [ih h]
      omega
theorem countM_take {m : List (ByteArray × JV)} {j : Nat} {p : ByteArray × JV} (h : m[j]? = some p) : countM (m.take (j + 1)) = countM (m.take j) + countT p.2 := by
  induction m generalizing j with
  | nil => simp at h
  | cons a m ih =>
    obtain ⟨a, b⟩ := a
    cases j with
    | zero =>
      simp at h
      subst h
      simp [countM]
    | succ j =>
      rw [List.getElem?_cons_succ] at h
      rw [List.take_succ_cons, List.take_succ_cons]
      unfold countM
      rw [ih h]
      omega

/-- The count is answered, as an int holds it. -/
def CountRet (w : World) (t : JV) (e : Ending) (w' : World) : Prop := e = .returned (.int .i64 (IntKind.i64.wrap (countT t))) ∧ Below w.heap.size w w'
theorem wrap_step (a b c : Int) (h : a + b = c) : wrap64 (IntKind.i64.wrap a + wrap64 b) = IntKind.i64.wrap c := by
  subst h
  rw [IntKind.wrap_i64, IntKind.wrap_i64]
  unfold wrap64
  omega

end Go.Proofs.YtanemojiaahbgaaGreatDoor
end

section
/- emit.Check: whether a value is right, walked. -/
set_option linter.unusedSimpArgs false
set_option linter.unusedVariables false
namespace Go.Proofs.YtanemojiaahbgaaGreatDoor
open Go.RowKit Go.OpenShut

mutual
/-- What the checker says of a value that lies d deep, behind p values; and how many values it has seen then. -/
def chkT : JV → Nat → Nat → Int × Nat
  | .mk k n s l m, d, p => if 16 < d then (51, p) else if 8192 < p + 1 then (53, p + 1) else if rightP k n s l.length (m.map (·.1)) = false then (1, p + 1) else
      if (chkL l (d + 1) (p + 1)).1 ≠ 0 then chkL l (d + 1) (p + 1) else chkM m (d + 1) (chkL l (d + 1) (p + 1)).2
def chkL : List JV → Nat → Nat → Int × Nat
  | [], _, p => (0, p)
  | t :: l, d, p => if (chkT t d p).1 ≠ 0 then chkT t d p else chkL l d (chkT t d p).2
def chkM : List (ByteArray × JV) → Nat → Nat → Int × Nat
  | [], _, p => (0, p)
  | (_, t) :: m, d, p => if (chkT t d p).1 ≠ 0 then chkT t d p else chkM m d (chkT t d p).2
end
theorem chkL_step {l : List JV} {j : Nat} {t : JV} (h : l[j]? = some t) (d p : Nat) : chkL (l.drop j) d p = if (chkT t d p).1 ≠ 0 then chkT t d p else chkL (l.drop (j + 1)) d (chkT t d p).2 := by
  obtain ⟨hj, rfl⟩ := List.getElem?_eq_some_iff.1 h
  rw [List.drop_eq_getElem_cons hj]
  rfl
theorem chkM_step {m : List (ByteArray × JV)} {j : Nat} {q : ByteArray × JV} (h : m[j]? = some q) (d p : Nat) : chkM (m.drop j) d p = if (chkT q.2 d p).1 ≠ 0 then chkT q.2 d p else chkM (m.drop (j + 1)) d (chkT q.2 d p).2 := by
  obtain ⟨hj, rfl⟩ := List.getElem?_eq_some_iff.1 h
  rw [List.drop_eq_getElem_cons hj]
  rfl
mutual
theorem chkT_ok : ∀ (t : JV) (d p : Nat), (chkT t d p).1 = 0 → (chkT t d p).2 = p + countT t ∧ p + countT t ≤ 8192
  | .mk k n s l m, d, p, h => by
    unfold chkT at h ⊢
    unfold countT
    split at h
    · simp at h
    rename_i h1
    rw [if_neg h1]
    split at h
    · simp at h
    rename_i h2
    rw [if_neg h2]
    split at h
    · simp at h
    rename_i h3
    rw [if_neg h3]
    split at h
    · rename_i h4
      exact absurd h h4
    · rename_i h4
      rw [if_neg h4]
      have hl := chkL_ok l (d + 1) (p + 1) (by simpa using h4) (by omega)
      have hm := chkM_ok m (d + 1) _ h (by omega)
      rw [hm.1, hl.1]
      rw [hl.1] at hm
      omega
theorem chkL_ok : ∀ (l : List JV) (d p : Nat), (chkL l d p).1 = 0 → p ≤ 8192 → (chkL l d p).2 = p + countL l ∧ p + countL l ≤ 8192
  | [], d, p, h, hp => by simp [chkL, countL]; omega
  | t :: l, d, p, h, hp => by
    unfold chkL at h ⊢
    unfold countL
    split at h
    · rename_i h4
      exact absurd h h4
    · rename_i h4
      rw [if_neg h4]
      have ht := chkT_ok t d p (by simpa using h4)
      have hl := chkL_ok l d _ h (by omega)
      rw [hl.1, ht.1]
      rw [ht.1] at hl
      omega
theorem chkM_ok : ∀ (m : List (ByteArray × JV)) (d p : Nat), (chkM m d p).1 = 0 → p ≤ 8192 → (chkM m d p).2 = p + countM m ∧ p + countM m ≤ 8192
  | [], d, p, h, hp => by simp [chkM, countM]; omega
  | (_, t) :: l, d, p, h, hp => by
    unfold chkM at h ⊢
    unfold countM
    split at h
    · rename_i h4
      exact absurd h h4
    · rename_i h4
      rw [if_neg h4]
      have ht := chkT_ok t d p (by simpa using h4)
      have hl := chkM_ok l d _ h (by omega)
      rw [hl.1, ht.1]
      rw [ht.1] at hl
      omega
end

theorem _root_.Go.RowKit.Below.gb {w w' : World} (h : Below w.heap.size w w') (row : Option Nat) : w.grownBy w' row := ⟨h.os, h.tape, h.output, h.size, fun k hk _ => h.block k hk⟩
/-- The checker's count. -/
def CtAt (W : World) (g p : Nat) : Prop := W.heap[g]? = some (.cells #[.int .i64 p] 93 (0, 0))
theorem CtAt.lt {W : World} {g p : Nat} (h : CtAt W g p) : g < W.heap.size := (Array.getElem?_eq_some_iff.1 h).1
theorem CtAt.cell {W : World} {g p : Nat} (h : CtAt W g p) : W.cell? ⟨g, 0, none⟩ = some (.int .i64 p) := by
  unfold CtAt at h
  rw [cell_of_row W g 0 _ _ _ h]
  rfl
theorem CtAt.frozen {W : World} {g p : Nat} (h : CtAt W g p) : W.frozen? ⟨g, 0, none⟩ = false := by
  unfold CtAt at h
  simp [World.frozen?, h]
theorem CtAt.alloc {W : World} {g p : Nat} (h : CtAt W g p) (o : Obj) : CtAt (W.alloc o) g p := (Below.heap_alloc W o g h.lt).trans h
theorem CtAt.below {W W' : World} {g p : Nat} (h : CtAt W g p) (hb : Below W.heap.size W W') : CtAt W' g p := (hb.block g h.lt).trans h
def ChkRet (w : World) (g : Nat) (r : Int × Nat) (e : Ending) (w' : World) : Prop := e = .returned (.int .i64 r.1) ∧ CtAt w' g r.2 ∧ w.grownBy w' (some g)
theorem VAt.kept {W W' : World} {g x : Nat} {r : RV} (h : VAt W x r) (hg : W.grownBy W' (some g)) (hne : x ≠ g) : VAt W' x r := (hg.block x h.lt (by simpa using hne)).trans h

set_option maxRecDepth 100000 in
set_option maxHeartbeats 4000000 in
theorem chk_any (N : Nat) : ∀ (t : JV) (r : RV) (w : World) (B g d p : Nat), SizeOf.sizeOf t ≤ N → TreeOf w B t r → t.Ok → B ≤ g → CtAt w g p → p ≤ 8192 → d ≤ 17 →
    Calls Tryz.prog 52 #[.pointer (some ⟨g, 0, none⟩), r.val, .int .i64 d] w (ChkRet w g (chkT t d p)) := by
  induction N with
  | zero => intro t r w B g d p hN; cases t; simp at hN
  | succ N ih =>
    intro t r w B g d p hN ht ot hBg hc hp hd
    cases ht with
    | @mk _ l m rs rms hl el hcl hm em hcn hcm =>
    obtain ⟨k, n, s, pl, nl, cl, pm, nm, cm⟩ := r
    cases ot with
    | mk _ _ bs bl bm okl oks okm =>
    dsimp only [RV.val] at *
    have eL := rd_nlen hl
    have eM := rd_nlen hm
    have hgw := hc.lt
    have HT : Hid (∀ (i : Nat) t q, l[i]? = some t → rs[i]? = some q → ∀ W (d' p' : Nat), w.grownBy W (some g) → CtAt W g p' → p' ≤ 8192 → d' ≤ 17 → Calls Tryz.prog 52 #[.pointer (some ⟨g, 0, none⟩), q.val, .int .i64 d'] W (ChkRet W g (chkT t d' p'))) :=
      fun i t q h1 h2 W d' p' hb hc' hp' hd' => ih t q W B g d' p' (by have := JV.lt_l (k := k) (n := n) (s := s) (m := m) h1; omega) ((hcl i t q h1 h2).under ((Below.refl B w).grown hb (by omega) (fun a e => by cases e; exact hBg)) (Nat.le_refl _)) (okl i t h1) hBg hc' hp' hd'
    have HS : Hid (∀ (i : Nat) q x, m[i]? = some q → rms[i]? = some x → ∀ W (d' p' : Nat), w.grownBy W (some g) → CtAt W g p' → p' ≤ 8192 → d' ≤ 17 → Calls Tryz.prog 52 #[.pointer (some ⟨g, 0, none⟩), x.v.val, .int .i64 d'] W (ChkRet W g (chkT q.2 d' p'))) :=
      fun i q x h1 h2 W d' p' hb hc' hp' hd' => ih q.2 x.v W B g d' p' (by have := JV.lt_m (k := k) (n := n) (s := s) (l := l) h1; omega) ((hcm i q x h1 h2).under ((Below.refl B w).grown hb (by omega) (fun a e => by cases e; exact hBg)) (Nat.le_refl _)) (okm i q h1) hBg hc' hp' hd'
    have hnl : nl ≤ 1759218604390 := by omega
    have hnm : nm ≤ 1466015503658 := by omega
    have hnames : rms.map (·.name) = m.map (·.1) := by
      apply List.ext_getElem?
      intro i
      rw [List.getElem?_map, List.getElem?_map]
      cases h1 : m[i]? with
      | none =>
        have : rms[i]? = none := by rw [List.getElem?_eq_none_iff] at h1 ⊢; omega
        rw [this]; rfl
      | some a =>
        obtain ⟨b, hb⟩ : ∃ b, rms[i]? = some b := ⟨_, List.getElem?_eq_getElem (by have := (List.getElem?_eq_some_iff.1 h1).1; omega)⟩
        rw [hb]
        simp [hcn i a b h1 hb]
    have hsz : ∀ (i : Nat) q, rms[i]? = some q → q.name.size ≤ maxLen := by
      intro i q hq
      obtain ⟨b, hb⟩ : ∃ b, m[i]? = some b := ⟨_, List.getElem?_eq_getElem (by have := (List.getElem?_eq_some_iff.1 hq).1; omega)⟩
      rw [← hcn i b q hb hq]
      have := oks i b hb
      unfold maxLen; omega
    have hR : ∀ W, Below B w W → B ≤ W.heap.size → Calls Tryz.prog 74 #[.agg #[.int .i64 k, .int .i64 n, .string s, .slice pl nl cl, .slice pm nm cm]] W fun e w' => e = .returned (.bool (rightP k n s l.length (m.map (·.1)))) ∧ Below W.heap.size W w' := fun W hb hz => by
      rw [← hnames, show l.length = nl by omega]
      exact rightV_any ⟨k, n, s, pl, nl, cl, pm, nm, cm⟩ rms W (hm.below hb hz) hsz hnm (by show s.size ≤ _; unfold maxLen; omega)
    have HR := Lib.hid hR
    have HL := Lib.hid hl
    have HM := Lib.hid hm
    have E1 : Hid (l.length = nl ∧ rs.length = nl) := ⟨by omega, by omega⟩
    have E2 : Hid (m.length = nm ∧ rms.length = nm) := ⟨by omega, by omega⟩
    have hA0 : VAt (w.alloc (.cells #[.int .i64 k, .int .i64 n, .string s, .slice pl nl cl, .slice pm nm cm] 31)) w.heap.size ⟨k, n, s, pl, nl, cl, pm, nm, cm⟩ := heap_alloc_at rfl
    have hG0 : w.grownBy (w.alloc (.cells #[.int .i64 k, .int .i64 n, .string s, .slice pl nl cl, .slice pm nm cm] 31)) (some g) := World.grownBy_alloc _ _ _
    have hC0 := hc.alloc (.cells #[.int .i64 k, .int .i64 n, .string s, .slice pl nl cl, .slice pm nm cm] 31)
    clear ih hcl hcn hcm hl hm okl oks okm el em bl bm eL eM hN hR hnames hsz hc bs
    by_cases hd16 : 16 < d
    · have HX : Hid (chkT (.mk k n s l m) d p = (51, p)) := by unfold Hid chkT; rw [if_pos hd16]
      have HC := Lib.hid hC0
      have HG := Lib.hid hG0
      clear hA0 hC0 hG0
      go_enter Tryz.func52, Tryz.ntmps52
      go_wp2_with fail
      go_ret
      exact ⟨ret_int (by rw [HX.out]), by rw [HX.out]; exact HC.out, HG.out⟩
    · go_enter Tryz.func52, Tryz.ntmps52
      go_upto_region 3 with fail
      obtain ⟨W0, hW0⟩ : ∃ W0, (w.alloc (.cells #[.int .i64 k, .int .i64 n, .string s, .slice pl nl cl, .slice pm nm cm] 31)) = W0 := ⟨_, rfl⟩
      rw [hW0] at hA0 hG0 hC0 ⊢
      clear hW0
      have c0 := hC0.cell
      have c1 := hC0.frozen
      have hA1 : VAt (W0.setCell ⟨g, 0, none⟩ (.int .i64 ((p + 1 : Nat) : Int))) w.heap.size ⟨k, n, s, pl, nl, cl, pm, nm, cm⟩ := hA0.kept (grownBy_set W0 g 0 _) (by omega)
      have hG1 : w.grownBy (W0.setCell ⟨g, 0, none⟩ (.int .i64 ((p + 1 : Nat) : Int))) (some g) := hG0.trans (grownBy_set W0 g 0 _)
      have hC1 : CtAt (W0.setCell ⟨g, 0, none⟩ (.int .i64 ((p + 1 : Nat) : Int))) g (p + 1) := by
        have h := hC0
        unfold CtAt at h ⊢
        simp [World.setCell, Array.getElem?_modify, h]
      have hp0 : (0 : Int) ≤ (p : Int) := Int.natCast_nonneg _
      have hp1 : (p : Int) ≤ 8192 := by omega
      have hd0 : (0 : Int) ≤ (d : Int) := Int.natCast_nonneg _
      have hd1 : (d : Int) ≤ 16 := by omega
      have hw1 : W0.setCell ⟨g, 0, none⟩ (.int .i64 ((p : Int) + 1)) = W0.setCell ⟨g, 0, none⟩ (.int .i64 ((p + 1 : Nat) : Int)) := by rw [show ((p : Int) + 1) = ((p + 1 : Nat) : Int) by omega]
      go_upto_region 4 with fail
      clear hw1 c0 c1 hA0 hG0 hC0
      obtain ⟨W1, hW1⟩ : ∃ W1, W0.setCell ⟨g, 0, none⟩ (.int .i64 ((p + 1 : Nat) : Int)) = W1 := ⟨_, rfl⟩
      rw [hW1] at hA1 hG1 hC1 ⊢
      clear hW1 W0
      have c0 := hC1.cell
      have HC := Lib.hid hC1
      have HG := Lib.hid hG1
      have HA := Lib.hid hA1
      clear hC1 hG1
      by_cases hp8 : 8192 < p + 1
      · have HX : Hid (chkT (.mk k n s l m) d p = (53, p + 1)) := by unfold Hid chkT; rw [if_neg hd16, if_pos hp8]
        have hq : decide ((8192 : Int) < ((p + 1 : Nat) : Int)) = true := by simp; omega
        clear hA1
        go_wp2_with fail
        go_ret
        exact ⟨ret_int (by rw [HX.out]), by rw [HX.out]; exact HC.out, HG.out⟩
      · have hq : decide ((8192 : Int) < ((p + 1 : Nat) : Int)) = false := by simp; omega
        have a0 := hA1.cell 0 rfl
        have a1 := hA1.cell 1 rfl
        have a2 := hA1.cell 2 rfl
        have a3 := hA1.cell 3 rfl
        have a4 := hA1.cell 4 rfl
        dsimp only at a0 a1 a2 a3 a4
        clear hA1
        have hz := HA.out.lt
        have hBW : Below B w W1 := (Below.refl B w).grown HG.out (by omega) (fun a e => by cases e; exact hBg)
        have HR2 := Lib.hid (HR.out W1 hBW (by omega))
        have HBW := Lib.hid hBW
        clear HR hBW
        cases hr : rightP k n s l.length (m.map (·.1)) with
        | false =>
          have HX : Hid (chkT (.mk k n s l m) d p = (1, p + 1)) := by unfold Hid chkT; rw [if_neg hd16, if_neg hp8, if_pos hr]
          rw [hr] at HR2
          clear hr
          go_wp2_with (go_at_call 74; refine HR2.out.mono ?_; rintro e w1 ⟨rfl, hb1⟩)
          go_ret
          exact ⟨ret_int (by rw [HX.out]), by rw [HX.out]; exact HC.out.below hb1, HG.out.trans (hb1.gb _)⟩
        | true =>
          rw [hr] at HR2
          have HX : Hid (chkT (.mk k n s l m) d p = if (chkL l (d + 1) (p + 1)).1 ≠ 0 then chkL l (d + 1) (p + 1) else chkM m (d + 1) (chkL l (d + 1) (p + 1)).2) := by
            unfold Hid; rw [chkT, if_neg hd16, if_neg hp8, if_neg (by rw [hr]; decide)]
          clear hr
          go_upto_region 8 with (go_at_call 74; refine HR2.out.mono ?_; rintro e w1 ⟨rfl, hb1⟩)
          have HA1 := HA.out.under hb1 HA.out.lt
          have HC1 := HC.out.below hb1
          have HG1 := HG.out.trans (hb1.gb _)
          have hz1 := HG1.size
          clear HA HC HG HR2 c0 a0 a1 a2 a3 a4 hb1 HBW hz hp1 hp0
          obtain ⟨W2, hW2⟩ : ∃ W2, w1 = W2 := ⟨_, rfl⟩
          rw [hW2] at HA1 HC1 HG1 hz1 ⊢
          clear hW2 w1
          have HA := Lib.hid HA1
          have HG := Lib.hid HG1
          have hz2 := HA1.lt
          have a0 := HA1.cell 0 rfl
          have a1 := HA1.cell 1 rfl
          have a2 := HA1.cell 2 rfl
          have a3 := HA1.cell 3 rfl
          have a4 := HA1.cell 4 rfl
          dsimp only at a0 a1 a2 a3 a4
          have hp9 : p + 1 ≤ 8192 := by omega
          clear HA1 HG1 hp8 hd16 hp
          have HGW : Hid (B ≤ w.heap.size) := by unfold Hid; omega
          have HNE : Hid (w.heap.size ≠ g) := by unfold Hid; omega
          obtain ⟨R1, hR1⟩ : ∃ R, chkL l (d + 1) (p + 1) = R := ⟨_, rfl⟩
          rw [hR1] at HX
          have HR1 := Lib.hid hR1
          clear hR1
          go_wp2_with fail
          go_loopw [33] (fun i wr => ∃ (j q : Nat), j ≤ nl ∧ i = .int .i64 j ∧ q ≤ 8192 ∧ CtAt wr g q ∧ Hid (chkL (l.drop j) (d + 1) q = R1) ∧ Hid (W2.grownBy wr (some g))) (fun i _ => nl - (intOf i).toNat)
          case atStart => exact ⟨0, p + 1, Nat.zero_le _, rfl, hp9, HC1, HR1, World.grownBy.refl _ _⟩
          case round =>
            obtain ⟨j, q, hj, rfl, hq8, hcr, hrr, hgr⟩ := hrel
            have hGw := HG.out.trans hgr.out
            by_cases hlt : j < nl
            · obtain ⟨tx, htx⟩ : ∃ x, l[j]? = some x := ⟨_, List.getElem?_eq_getElem (by have := E1.out; omega)⟩
              obtain ⟨x, hx⟩ : ∃ x, rs[j]? = some x := ⟨_, List.getElem?_eq_getElem (by have := E1.out; omega)⟩
              have hbw : Below B w wr := (Below.refl B w).grown hGw HGW.out (fun a e => by cases e; exact hBg)
              obtain ⟨b1, o1, rfl, hb1, hc1⟩ := rd_at' (HL.out.below hbw (Nat.le_refl _)) hx
              have f0 := hc1 0 _ rfl
              have f1 := hc1 1 _ rfl
              have f2 := hc1 2 _ rfl
              have f3 := hc1 3 _ rfl
              have f4 := hc1 4 _ rfl
              rw [Nat.add_zero] at f0
              have hst := chkL_step htx (d + 1) q
              rw [hrr.out] at hst
              have hGx : w.grownBy (wr.alloc (.cells #[.int .i64 x.k, .int .i64 x.n, .string x.s, .slice x.pl x.nl x.cl, .slice x.pm x.nm x.cm] 31)) (some g) := hGw.trans (World.grownBy_alloc _ _ _)
              have hH := HT.out j tx x htx hx _ (d + 1) q hGx (hcr.alloc _) hq8 (by omega)
              have HG2 : Hid (W2.grownBy (wr.alloc (.cells #[.int .i64 x.k, .int .i64 x.n, .string x.s, .slice x.pl x.nl x.cl, .slice x.pm x.nm x.cm] 31)) (some g)) := hgr.out.trans (World.grownBy_alloc _ _ _)
              have hk0 : (0 : Int) ≤ (j : Int) := Int.natCast_nonneg _
              have hk1 : (j : Int) < (nl : Int) := by omega
              have hok := chkT_ok tx (d + 1) q
              generalize chkT tx (d + 1) q = RR at hst hH hok
              obtain ⟨ev, pv⟩ := RR
              dsimp only at hst hok
              have HH := Lib.hid hH
              clear hc1 htx hx hH hGx hbw hGw hcr hrr hgr
              by_cases hev : ev = 0
              · have hpv : pv ≤ 8192 := by have := hok hev; omega
                rw [if_neg (by simpa using hev)] at hst
                have HST := Lib.hid hst
                subst hev
                clear hst hok
                go_wp2_with (go_at_call 52; refine HH.out.mono ?_; rintro e w3 ⟨rfl, hc3, hg3⟩; have HG3 := Lib.hid (HG2.out.trans hg3); clear hg3)
                go_roundw
                case rel => exact ⟨j + 1, pv, by omega, by go_num, hpv, hc3, HST.out.symm, HG3⟩
                case measure => simp [intOf]; omega
              · rw [if_pos (by simpa using hev)] at hst
                have HST := Lib.hid hst
                have hq1 : (ev != 0) = true := by simpa using hev
                have hq2 : (ev == 0) = false := by simpa using hev
                have HXX : Hid (chkT (.mk k n s l m) d p = (ev, pv)) := by
                  unfold Hid
                  rw [HX.out, HST.out, if_pos (by simpa using hev)]
                clear hst hok hev
                go_wp2_with (go_at_call 52; refine HH.out.mono ?_; rintro e w3 ⟨rfl, hc3, hg3⟩; have HG3 := Lib.hid (HG2.out.trans hg3); clear hg3; have HC3 := Lib.hid hc3; clear hc3)
                go_ret
                exact ⟨ret_int (by rw [HXX.out]), by rw [HXX.out]; exact HC3.out, HG.out.trans HG3.out⟩
            · obtain rfl : j = nl := by omega
              have hR1 : R1 = (0, q) := by
                have h := hrr.out
                rw [List.drop_of_length_le (by have := E1.out; omega)] at h
                exact h.symm
              have hXX : chkT (.mk k n s l m) d p = chkM m (d + 1) q := by
                rw [HX.out, hR1]; rfl
              clear hR1
              have c4 := (HA.out.kept hgr.out HNE.out).cell 4 rfl
              dsimp only at c4
              clear a0 a1 a2 a3 a4 HX hrr HR1
              obtain ⟨R2, hR2⟩ : ∃ R, chkM m (d + 1) q = R := ⟨_, rfl⟩
              rw [hR2] at hXX
              have HX := Lib.hid hXX
              have HR2 := Lib.hid hR2
              have HG4 := Lib.hid (HG.out.trans hgr.out)
              have hzz : w.heap.size < wr.heap.size := by have := hgr.out.size; omega
              clear hXX hR2 hGw hgr HC1 HT E1 HL
              obtain ⟨W3, hW3⟩ : ∃ W3, wr = W3 := ⟨_, rfl⟩
              rw [hW3] at c4 hcr HG4 hzz ⊢
              clear hW3 wr
              go_wp2_with fail
              go_loopw [49] (fun i wr => ∃ (j q : Nat), j ≤ nm ∧ i = .int .i64 j ∧ q ≤ 8192 ∧ CtAt wr g q ∧ Hid (chkM (m.drop j) (d + 1) q = R2) ∧ Hid (W3.grownBy wr (some g))) (fun i _ => nm - (intOf i).toNat)
              case atStart => exact ⟨0, q, Nat.zero_le _, rfl, hq8, hcr, HR2, World.grownBy.refl _ _⟩
              case round =>
                obtain ⟨j, q, hj, rfl, hq8, hcr, hrr, hgr⟩ := hrel
                have hGw := HG4.out.trans hgr.out
                by_cases hlt : j < nm
                · obtain ⟨tx, htx⟩ : ∃ x, m[j]? = some x := ⟨_, List.getElem?_eq_getElem (by have := E2.out; omega)⟩
                  obtain ⟨x, hx⟩ : ∃ x, rms[j]? = some x := ⟨_, List.getElem?_eq_getElem (by have := E2.out; omega)⟩
                  have hbw : Below B w wr := (Below.refl B w).grown hGw HGW.out (fun a e => by cases e; exact hBg)
                  obtain ⟨b1, o1, rfl, hb1, hc1⟩ := rd_at' (HM.out.below hbw (Nat.le_refl _)) hx
                  have f0 := hc1 0 _ rfl
                  have f1 := hc1 1 _ rfl
                  have f2 := hc1 2 _ rfl
                  have f3 := hc1 3 _ rfl
                  have f4 := hc1 4 _ rfl
                  have f5 := hc1 5 _ rfl
                  rw [Nat.add_zero] at f0
                  have hst := chkM_step htx (d + 1) q
                  rw [hrr.out] at hst
                  have hGx : w.grownBy (wr.alloc (.cells #[.string x.name, .int .i64 x.v.k, .int .i64 x.v.n, .string x.v.s, .slice x.v.pl x.v.nl x.v.cl, .slice x.v.pm x.v.nm x.v.cm] 48)) (some g) := hGw.trans (World.grownBy_alloc _ _ _)
                  have hH := HS.out j tx x htx hx _ (d + 1) q hGx (hcr.alloc _) hq8 (by omega)
                  have HG2 : Hid (W3.grownBy (wr.alloc (.cells #[.string x.name, .int .i64 x.v.k, .int .i64 x.v.n, .string x.v.s, .slice x.v.pl x.v.nl x.v.cl, .slice x.v.pm x.v.nm x.v.cm] 48)) (some g)) := hgr.out.trans (World.grownBy_alloc _ _ _)
                  have hk0 : (0 : Int) ≤ (j : Int) := Int.natCast_nonneg _
                  have hk1 : (j : Int) < (nm : Int) := by omega
                  have hok := chkT_ok tx.2 (d + 1) q
                  generalize chkT tx.2 (d + 1) q = RR at hst hH hok
                  obtain ⟨ev, pv⟩ := RR
                  dsimp only at hst hok
                  have HH := Lib.hid hH
                  clear hc1 htx hx hH hGx hbw hGw hcr hrr hgr
                  by_cases hev : ev = 0
                  · have hpv : pv ≤ 8192 := by have := hok hev; omega
                    rw [if_neg (by simpa using hev)] at hst
                    have HST := Lib.hid hst
                    subst hev
                    clear hst hok
                    go_wp2_with (go_at_call 52; refine HH.out.mono ?_; rintro e w3 ⟨rfl, hc3, hg3⟩; have HG3 := Lib.hid (HG2.out.trans hg3); clear hg3)
                    go_roundw
                    case rel => exact ⟨j + 1, pv, by omega, by go_num, hpv, hc3, HST.out.symm, HG3⟩
                    case measure => simp [intOf]; omega
                  · rw [if_pos (by simpa using hev)] at hst
                    have HST := Lib.hid hst
                    have hq1 : (ev != 0) = true := by simpa using hev
                    have hq2 : (ev == 0) = false := by simpa using hev
                    have HXX : Hid (chkT (.mk k n s l m) d p = (ev, pv)) := by
                      unfold Hid
                      rw [HX.out, HST.out]
                    clear hst hok hev
                    go_wp2_with (go_at_call 52; refine HH.out.mono ?_; rintro e w3 ⟨rfl, hc3, hg3⟩; have HG3 := Lib.hid (HG2.out.trans hg3); clear hg3; have HC3 := Lib.hid hc3; clear hc3)
                    go_ret
                    exact ⟨ret_int (by rw [HXX.out]), by rw [HXX.out]; exact HC3.out, HG4.out.trans HG3.out⟩
                · obtain rfl : j = nm := by omega
                  have HXX : Hid (chkT (.mk k n s l m) d p = (0, q)) := by
                    have h := hrr.out
                    rw [List.drop_of_length_le (by have := E2.out; omega)] at h
                    unfold Hid
                    rw [HX.out, ← h]; rfl
                  have HC3 := Lib.hid hcr
                  clear hcr
                  go_wp2_with fail
                  go_ret
                  exact ⟨ret_int (by rw [HXX.out]), by rw [HXX.out]; exact HC3.out, HG4.out.trans hgr.out⟩

/-- What Check says of a value. -/
def checkE (t : JV) : Int := (chkT t 1 0).1
set_option maxRecDepth 100000 in
set_option maxHeartbeats 4000000 in
theorem check_any (t : JV) (r : RV) (w : World) (ht : TreeOf w w.heap.size t r) (ot : t.Ok) :
    Calls Tryz.prog 20 #[r.val] w fun e w' => e = .returned (.int .i64 (checkE t)) ∧ Below w.heap.size w w' := by
  have HT := Lib.hid ht
  have HO := Lib.hid ot
  clear ht ot
  obtain ⟨k, n, s, pl, nl, cl, pm, nm, cm⟩ := r
  dsimp only [RV.val] at *
  have hB0 : Below w.heap.size w ((w.alloc (.cells #[.int .i64 k, .int .i64 n, .string s, .slice pl nl cl, .slice pm nm cm] 31)).alloc (.cells #[.int .i64 0] 93)) := ((Below.refl _ _).alloc (Nat.le_refl _) _).alloc (by simp) _
  have hC : CtAt ((w.alloc (.cells #[.int .i64 k, .int .i64 n, .string s, .slice pl nl cl, .slice pm nm cm] 31)).alloc (.cells #[.int .i64 0] 93)) (w.heap.size + 1) 0 := by
    have := @heap_alloc_at (w.alloc (.cells #[.int .i64 k, .int .i64 n, .string s, .slice pl nl cl, .slice pm nm cm] 31)) (.cells #[.int .i64 0] 93) _ rfl
    simpa [CtAt] using this
  have HH := Lib.hid (chk_any _ t ⟨k, n, s, pl, nl, cl, pm, nm, cm⟩ _ w.heap.size (w.heap.size + 1) 1 0 (Nat.le_refl _) (HT.out.under hB0 (Nat.le_refl _)) HO.out (by omega) hC (by omega) (by omega))
  have HB := Lib.hid hB0
  clear hC hB0
  go_enter Tryz.func20, Tryz.ntmps20
  go_wp2_with (go_at_call 52; refine HH.out.mono ?_; rintro e w3 ⟨rfl, hc3, hg3⟩)
  go_ret
  exact ⟨rfl, HB.out.grown hg3 (by simp; omega) (fun a e => by cases e; omega)⟩
end Go.Proofs.YtanemojiaahbgaaGreatDoor
end
