import Derived.Test.YtanemojiaahbgaaGreatDoorSf07
import Derived.Test.YtanemojiaahbgaaGreatDoorSf08
import Derived.Test.YtanemojiaahbgaaGreatDoorSf04
import Derived.Test.YtanemojiaahbgaaGreatDoorSf00
import Derived.ProofKit
import Derived.Below
import Derived.Test.YtanemojiaahbgaaGreatDoorProg
import Derived.WalkKit
import Derived.WalkSpells
import Derived.WalkLawsBesides
import Derived.BigQuiet
import Derived.Deep.QuietTactic
import Derived.Lib.Hide
section
/- fetch.object and ref25.Add, walked. -/
set_option linter.unusedSimpArgs false
set_option linter.unusedVariables false
namespace Go.Proofs.YtanemojiaahbgaaGreatDoor
open Go Go.RowKit Go.OpenShut

/-- A map of these members, its list in memory of the call's own. -/
def ObjRet (w : World) (rms : List RM) (e : Ending) (w' : World) : Prop := ∃ p n c, e = .returned (RV.val ⟨6, 0, ⟨#[]⟩, none, 0, 0, p, n, c⟩) ∧ Own w' w.heap.size 48 encM 6 (.slice p n c) rms ∧ Below w.heap.size w w'

set_option maxRecDepth 100000 in
set_option maxHeartbeats 2000000 in
theorem object_any (rms : List RM) (p : Option Addr) (n c : Nat) (w : World) (hr : Rd w w.heap.size encM 6 (.slice p n c) rms) (hl : rms.length ≤ 100000) : Calls Tryz.prog 26 #[.slice p n c] w (ObjRet w rms) := by
  have hZ0 : VAt (w.alloc (.cells #[.int .i64 0, .int .i64 0, .string ⟨#[]⟩, .slice none 0 0, .slice none 0 0] 31)) w.heap.size RV.zero := heap_alloc_at rfl
  have hB0 : Below w.heap.size w (w.alloc (.cells #[.int .i64 0, .int .i64 0, .string ⟨#[]⟩, .slice none 0 0, .slice none 0 0] 31)) := (Below.refl _ _).alloc (Nat.le_refl _) _
  have HR := Lib.hid hr
  clear hr
  go_enter Tryz.func26, Tryz.ntmps26
  go_upto_region 1 with fail
  obtain ⟨W0, hW0⟩ : ∃ W0, (w.alloc (.cells #[.int .i64 0, .int .i64 0, .string ⟨#[]⟩, .slice none 0 0, .slice none 0 0] 31)) = W0 := ⟨_, rfl⟩
  rw [hW0] at hZ0 hB0 ⊢
  clear hW0
  have hC : Hid (Calls Tryz.prog 58 #[.slice p n c] W0 fun e w' => ∃ p' c', e = .returned (.slice p' n c') ∧ Own w' W0.heap.size 48 encM 6 (.slice p' n c') rms ∧ VAt w' w.heap.size RV.zero ∧ Below w.heap.size w w') :=
    (cloneM_any codecM W0 p n c rms (HR.out.below hB0 hB0.size) (by omega)).mono (fun e w' h => by
      obtain ⟨p', c', he, _, ho, hb⟩ := h
      exact ⟨p', c', he, ho, hZ0.under hb hZ0.lt, hB0.trans (hb.mono hB0.size)⟩)
  have hsz := hZ0.lt
  clear hZ0 hB0
  go_upto_region 2 with (go_at_call 58; refine hC.out.mono ?_; rintro e w1 ⟨p', c', rfl, ho, hz, hb⟩; (have y0 := hz.frozen 0); (have y1 := hz.frozen 1); (have y2 := hz.frozen 2); (have y3 := hz.frozen 3); (have y4 := hz.frozen 4); (have z0 := hz.cell 0 rfl); (have z1 := hz.cell 1 rfl); (have z2 := hz.cell 2 rfl); (have z3 := hz.cell 3 rfl); (have z4 := hz.cell 4 rfl); (dsimp only [RV.zero] at z0 z1 z2 z3 z4); (have HO := Lib.hid ho); (have HB := Lib.hid hb); clear ho hb hz)
  refine bodyPost_ret (v := RV.val ⟨6, 0, ⟨#[]⟩, none, 0, 0, p', n, c'⟩) (by simp [results, Tryz.results26, go_sem, z0, z1, z2, z3, z4]) rfl ⟨p', n, c', rfl, ?_, Below.stored HB.out (Nat.le_refl _) ⟨6, 0, ⟨#[]⟩, none, 0, 0, p', n, c'⟩⟩
  exact (HO.out.kept (grownBy_set5 w1 w.heap.size ⟨6, 0, ⟨#[]⟩, none, 0, 0, p', n, c'⟩) (.inr (fun e => by have := (HO.out.lt _ e).1; omega))).mono (by omega)

set_option maxRecDepth 100000 in
set_option maxHeartbeats 4000000 in
theorem addV_any (k : Int) (m : Int) (s : ByteArray) (pl : Option Addr) (nl cl : Nat) (p : Option Addr) (n c : Nat) (rms : List RM) (name : ByteArray) (x : RV) (w : World) (hr : Rd w w.heap.size encM 6 (.slice p n c) rms) (hl : rms.length ≤ 100000) :
    Calls Tryz.prog 34 #[RV.val ⟨k, m, s, pl, nl, cl, p, n, c⟩, .string name, RV.val x] w (ObjRet w (rms ++ [⟨name, x⟩])) := by
  obtain ⟨xk, xn, xs, xpl, xnl, xcl, xpm, xnm, xcm⟩ := x
  obtain ⟨W0, hW0⟩ : ∃ W0, (((w.alloc (.cells #[.int .i64 k, .int .i64 m, .string s, .slice pl nl cl, .slice p n c] 31)).alloc (.cells #[.int .i64 xk, .int .i64 xn, .string xs, .slice xpl xnl xcl, .slice xpm xnm xcm] 31)).alloc (.cells #[.int .i64 0, .int .i64 0, .string ⟨#[]⟩, .slice none 0 0, .slice none 0 0] 31)).alloc (.cells #[.int .i64 6, .int .i64 0, .string ⟨#[]⟩, .slice none 0 0, .slice none 0 0] 31) = W0 := ⟨_, rfl⟩
  have hA0 : VAt W0 w.heap.size ⟨k, m, s, pl, nl, cl, p, n, c⟩ := by rw [← hW0]; exact heap_alloc_lt (by simp; omega) (heap_alloc_lt (by simp; omega) (heap_alloc_lt (by simp) (heap_alloc_at rfl)))
  have hX0 : VAt W0 (w.heap.size + 1) ⟨xk, xn, xs, xpl, xnl, xcl, xpm, xnm, xcm⟩ := by rw [← hW0]; exact heap_alloc_lt (by simp) (heap_alloc_lt (by simp) (heap_alloc_at (by simp)))
  have hZ0 : VAt W0 (w.heap.size + 1 + 1) RV.zero := by rw [← hW0]; exact heap_alloc_lt (by simp) (heap_alloc_at (by simp))
  have hV0 : VAt W0 (w.heap.size + 1 + 1 + 1) ⟨6, 0, ⟨#[]⟩, none, 0, 0, none, 0, 0⟩ := by rw [← hW0]; exact heap_alloc_at (by simp)
  have hB0 : Below w.heap.size w W0 := by rw [← hW0]; exact ((below2 w _ _).alloc (by simp; omega) _).alloc (by simp; omega) _
  have HR := Lib.hid (hr.below hB0 hB0.size)
  have HW := Lib.hid hW0
  clear hr hW0
  go_enter Tryz.func34, Tryz.ntmps34
  go_upto_region 2 with fail
  rw [HW.out]
  clear HW
  have HA := Lib.hid hA0
  have HX := Lib.hid hX0
  have HZ := Lib.hid hZ0
  have HV := Lib.hid hV0
  have HB := Lib.hid hB0
  have a4 := hA0.cell 4 rfl
  have v4 := hV0.cell 4 rfl
  dsimp only at a4 v4
  have hz := hV0.lt
  clear hA0 hX0 hZ0 hV0 hB0
  have hnil : Own W0 W0.heap.size 48 encM 6 (.slice none 0 0) ([] : List RM) := Own.nil _ _ _
  go_upto_region 3 with (at_builtin; refine wpList_append_rd slM codecM W0 rfl (.tmp 10) (.tmp 12) rfl (v := .slice none 0 0) rfl rfl hnil HR.out (by simp only [List.length_nil]; unfold maxLen; omega) (by simp only [List.length_nil]; omega) (Nat.le_refl _) ?_; intro v1 w1 ho1 hg1 hat1; obtain ⟨p1, n1, c1, rfl⟩ : ∃ p n c, v1 = Value.slice p n c := (by obtain ⟨p, c, hv, _, _⟩ := ho1.len; exact ⟨p, _, c, hv⟩); (have hV1 := HV.out.keep (hg1.block _ hz (by simp [Value.ownBlock]))); (have y14 := hV1.frozen 4); (have c14 := hV1.cell 4 rfl); dsimp only at c14; (have HG1 := Lib.hid hg1); (have HO1 := Lib.hid ho1); (have HV1 := Lib.hid hV1); clear ho1 hg1 hat1 hV1)
  have hg2 : W0.grownBy (w1.setCell ⟨w.heap.size + 1 + 1 + 1, 4, none⟩ (.slice p1 n1 c1)) (some (w.heap.size + 1 + 1 + 1)) := by
    have h1 := HG1.out
    have h2 := grownBy_set w1 (w.heap.size + 1 + 1 + 1) 4 (.slice p1 n1 c1)
    exact ⟨h2.os.trans h1.os, h2.tape.trans h1.tape, h2.output.trans h1.output, Nat.le_trans h1.size h2.size, fun k hk hne => (h2.block k (Nat.lt_of_lt_of_le hk h1.size) hne).trans (h1.block k hk (by simp [Value.ownBlock]))⟩
  have hV2 := HV1.out.setMs p1 n1 c1
  have hX2 := HX.out.keep (hg2.block _ HX.out.lt (by simp))
  have hZ2 := HZ.out.keep (hg2.block _ HZ.out.lt (by simp))
  have ho2 := HO1.out.kept (grownBy_set w1 (w.heap.size + 1 + 1 + 1) 4 (.slice p1 n1 c1)) (.inr (fun e => by have := (HO1.out.lt _ e).1; omega))
  rw [List.nil_append] at ho2
  have hb2 : Below w.heap.size w (w1.setCell ⟨w.heap.size + 1 + 1 + 1, 4, none⟩ (.slice p1 n1 c1)) := HB.out.grown hg2 HB.out.size (fun k e => by cases e; omega)
  obtain ⟨W2, hW2⟩ : ∃ W, w1.setCell ⟨w.heap.size + 1 + 1 + 1, 4, none⟩ (.slice p1 n1 c1) = W := ⟨_, rfl⟩
  rw [hW2] at hV2 hX2 hZ2 ho2 hb2 hg2 ⊢
  have hz0 : W0.heap.size ≤ W2.heap.size := hg2.size
  clear hW2 HV1 HO1 HG1 y14 c14 HA HX HZ HV HB a4 v4 hnil HR
  have v4 := hV2.cell 4 rfl
  dsimp only at v4
  have x0 := hX2.cell 0 rfl
  have x1 := hX2.cell 1 rfl
  have x2 := hX2.cell 2 rfl
  have x3 := hX2.cell 3 rfl
  have x4 := hX2.cell 4 rfl
  dsimp only at x0 x1 x2 x3 x4
  have HV2 := Lib.hid hV2
  have HZ2 := Lib.hid hZ2
  have HB2 := Lib.hid hb2
  have HO2 := Lib.hid (ho2.alloc (.cells #[.string name, .int .i64 xk, .int .i64 xn, .string xs, .slice xpl xnl xcl, .slice xpm xnm xcm] 48))
  have HRM : Hid (Rd (W2.alloc (.cells #[.string name, .int .i64 xk, .int .i64 xn, .string xs, .slice xpl xnl xcl, .slice xpm xnm xcm] 48)) (W2.heap.size + 1) encM 6 (.slice (some ⟨W2.heap.size, 0, none⟩) 1 1) [(⟨name, ⟨xk, xn, xs, xpl, xnl, xcl, xpm, xnm, xcm⟩⟩ : RM)]) := Rd.one codecM (heap_alloc_new _ _) rfl (by omega)
  clear hV2 hX2 hZ2 ho2 hb2 hg2
  have hz2 := HV2.out.lt
  have hz3 := HZ2.out.lt
  have HPK : Hid (∀ (w3 : World) (_ : Unit), (W2.alloc (.cells #[.string name, .int .i64 xk, .int .i64 xn, .string xs, .slice xpl xnl xcl, .slice xpm xnm xcm] 48)).grownBy w3 (Value.slice p1 n1 c1).ownBlock → VAt w3 (w.heap.size + 1 + 1 + 1) ⟨6, 0, ⟨#[]⟩, none, 0, 0, p1, n1, c1⟩ ∧ VAt w3 (w.heap.size + 1 + 1) RV.zero ∧ Below w.heap.size w w3) := fun w3 _ hg3 =>
    ⟨(show VAt (W2.alloc (.cells #[.string name, .int .i64 xk, .int .i64 xn, .string xs, .slice xpl xnl xcl, .slice xpm xnm xcm] 48)) _ _ from heap_alloc_lt hz2 HV2.out).keep (hg3.block _ (by simp; omega) (fun e => by have := (HO2.out.lt _ e.symm).1; omega)),
     (show VAt (W2.alloc (.cells #[.string name, .int .i64 xk, .int .i64 xn, .string xs, .slice xpl xnl xcl, .slice xpm xnm xcm] 48)) _ _ from heap_alloc_lt hz3 HZ2.out).keep (hg3.block _ (by simp; omega) (fun e => by have := (HO2.out.lt _ e.symm).1; omega)),
     Below.appended (HB2.out.alloc HB2.out.size _) hg3 (HO2.out.mono (by omega)) (by simp; omega)⟩
  go_upto_region 4 with (at_builtin; refine wpList_append_rd slM codecM (W2.alloc (.cells #[.string name, .int .i64 xk, .int .i64 xn, .string xs, .slice xpl xnl xcl, .slice xpm xnm xcm] 48)) rfl (.tmp 16) (.tmp 20) rfl (v := .slice p1 n1 c1) rfl rfl HO2.out HRM.out (by simp only [List.length_singleton]; unfold maxLen; omega) (by simp only [List.length_singleton]; omega) (by simp; omega) ?_; intro v3 w3 ho3 hg3 hat3; obtain ⟨p3, n3, c3, rfl⟩ : ∃ p n c, v3 = Value.slice p n c := (by obtain ⟨p, c, hv, _, _⟩ := ho3.len; exact ⟨p, _, c, hv⟩); obtain ⟨hV3, hZ3, hb3⟩ := HPK.out _ () hg3; (have y34 := hV3.frozen 4); (have c34 := hV3.cell 4 rfl); dsimp only at c34; (have HO3 := Lib.hid ho3); (have HV3 := Lib.hid hV3); (have HZ3 := Lib.hid hZ3); (have HB3 := Lib.hid hb3); clear ho3 hg3 hat3 hV3 hZ3 hb3)
  have hV4 := HV3.out.setMs p3 n3 c3
  have hZ4 : VAt (w3.setCell ⟨w.heap.size + 1 + 1 + 1, 4, none⟩ (.slice p3 n3 c3)) (w.heap.size + 1 + 1) RV.zero := HZ3.out.keep ((grownBy_set w3 (w.heap.size + 1 + 1 + 1) 4 _).block _ HZ3.out.lt (by simp))
  have ho4 := HO3.out.kept (grownBy_set w3 (w.heap.size + 1 + 1 + 1) 4 (.slice p3 n3 c3)) (.inr (fun e => by have := (HO3.out.lt _ e).1; omega))
  have hb4 := HB3.out.setCell (by omega : w.heap.size ≤ w.heap.size + 1 + 1 + 1) (p := ⟨w.heap.size + 1 + 1 + 1, 4, none⟩) (.slice p3 n3 c3)
  obtain ⟨W4, hW4⟩ : ∃ W, w3.setCell ⟨w.heap.size + 1 + 1 + 1, 4, none⟩ (.slice p3 n3 c3) = W := ⟨_, rfl⟩
  rw [hW4] at hV4 hZ4 ho4 hb4 ⊢
  clear hW4 HV3 HZ3 HO3 HB3 y34 c34 x0 x1 x2 x3 x4 v4
  have v0 := hV4.cell 0 rfl
  have v1 := hV4.cell 1 rfl
  have v2 := hV4.cell 2 rfl
  have v3 := hV4.cell 3 rfl
  have v4 := hV4.cell 4 rfl
  have z0 := hZ4.cell 0 rfl
  have z1 := hZ4.cell 1 rfl
  have z2 := hZ4.cell 2 rfl
  have z3 := hZ4.cell 3 rfl
  have z4 := hZ4.cell 4 rfl
  have y0 := hZ4.frozen 0
  have y1 := hZ4.frozen 1
  have y2 := hZ4.frozen 2
  have y3 := hZ4.frozen 3
  have y4 := hZ4.frozen 4
  dsimp only [RV.zero] at v0 v1 v2 v3 v4 z0 z1 z2 z3 z4
  have HO4 := Lib.hid ho4
  have HB4 := Lib.hid hb4
  clear hV4 hZ4 ho4 hb4
  go_wp2_with fail
  refine bodyPost_ret (v := RV.val ⟨6, 0, ⟨#[]⟩, none, 0, 0, p3, n3, c3⟩) (by simp [results, Tryz.results34, go_sem, z0, z1, z2, z3, z4]) rfl ⟨p3, n3, c3, rfl, ?_, Below.stored HB4.out (by omega) ⟨6, 0, ⟨#[]⟩, none, 0, 0, p3, n3, c3⟩⟩
  exact (HO4.out.kept (grownBy_set5 W4 (w.heap.size + 1 + 1) ⟨6, 0, ⟨#[]⟩, none, 0, 0, p3, n3, c3⟩) (.inr (fun e => by have := (HO4.out.lt _ e).1; omega))).mono (by omega)
end Go.Proofs.YtanemojiaahbgaaGreatDoor
end

section
/- An object shown by names: fetch.Show, walked. -/
set_option linter.unusedSimpArgs false
set_option linter.unusedVariables false
namespace Go.Proofs.YtanemojiaahbgaaGreatDoor
open Go Go.RowKit Go.OpenShut

/-- The state of the loop: the map that grows, in block o; the result's place is block b0. -/
structure ShowS (Ws : World) (B b0 o : Nat) (ms : List (ByteArray × JV)) (p : Option Addr) (n c : Nat) (W : World) : Prop where
  out : VAt W o ⟨6, 0, ⟨#[]⟩, none, 0, 0, p, n, c⟩
  zero : VAt W b0 RV.zero
  own : ∃ rms, Own W (b0 + 1) 48 encM 6 (.slice p n c) rms ∧ MemsOf W B ms rms
  no : (Value.slice p n c).ownBlock ≠ some o
  below : Below b0 Ws W
theorem ShowS.step {Ws W W' : World} {B b0 o : Nat} {ms : List (ByteArray × JV)} {p : Option Addr} {n c : Nat} (h : ShowS Ws B b0 o ms p n c W) (hB : B ≤ b0) (hb : Below W.heap.size W W') : ShowS Ws B b0 o ms p n c W' := by
  obtain ⟨rms, h1, h2⟩ := h.own
  have := h.zero.lt
  exact ⟨h.out.under hb h.out.lt, h.zero.under hb h.zero.lt, ⟨rms, h1.below hb (Nat.le_refl _), h2.under (hb.mono (by omega)) (Nat.le_refl _)⟩, h.no, h.below.trans (hb.mono (by omega))⟩
theorem ShowS.push {Ws W W1 W2 : World} {B b0 o : Nat} {ms : List (ByteArray × JV)} {p p2 : Option Addr} {n c n2 c2 : Nat} {rms : List RM} {x : RM} {y : ByteArray × JV} (h : ShowS Ws B b0 o ms p n c W) (hB : B ≤ b0) (hO : Own W (b0 + 1) 48 encM 6 (.slice p n c) rms) (hM : MemsOf W B ms rms)
    (hb : Below W.heap.size W W1) (ho : b0 < o) (ho2 : Own W2 (b0 + 1) 48 encM 6 (.slice p2 n2 c2) (rms ++ [x])) (hg : W1.grownBy W2 (Value.slice p n c).ownBlock) (hat : (Value.slice p2 n2 c2).ownBlock = (Value.slice p n c).ownBlock ∨ (Value.slice p2 n2 c2).ownBlock = some W1.heap.size)
    (hn : y.1 = x.name) (ht : TreeOf W B y.2 x.v) : ShowS Ws B b0 o (ms ++ [y]) p2 n2 c2 (W2.setCell ⟨o, 4, none⟩ (.slice p2 n2 c2)) := by
  have h1 := h.step hB hb
  have hO1 := hO.below hb (Nat.le_refl _)
  have hz := h1.zero.lt
  have hoz := h1.out.lt
  have hne2 : (Value.slice p2 n2 c2).ownBlock ≠ some o := fun e => by
    rcases hat with h | h
    · rw [h] at e; exact h1.no e
    · rw [h] at e; injection e with e; omega
  have hV : VAt W2 o ⟨6, 0, ⟨#[]⟩, none, 0, 0, p, n, c⟩ := (hg.block o hoz (fun e => h1.no e.symm)).trans h1.out
  have hZ : VAt W2 b0 RV.zero := (hg.block b0 hz (fun e => by have := (hO1.lt _ e.symm).1; omega)).trans h1.zero
  have hg2 := grownBy_set W2 o 4 (.slice p2 n2 c2)
  have hb2 : Below b0 W (W2.setCell ⟨o, 4, none⟩ (.slice p2 n2 c2)) := (((hb.mono (by have := h.zero.lt; omega)).grown hg (by omega) (fun k e => by have := (hO1.lt _ e).1; omega)).setCell (p := ⟨o, 4, none⟩) (show b0 ≤ o by omega) _)
  refine ⟨hV.set4 p2 n2 c2, (hg2.block b0 hZ.lt (by simp; omega)).trans hZ, ⟨rms ++ [x], ho2.kept hg2 (.inr hne2), ?_⟩, hne2, h.below.trans hb2⟩
  exact (hM.snoc hn ht).under (hb2.mono hB) (Nat.le_refl _)
/-- What is told at the end. -/
theorem ShowS.fin {Ws W w : World} {B b0 o : Nat} {ms : List (ByteArray × JV)} {p : Option Addr} {n c : Nat} (h : ShowS Ws B b0 o ms p n c W) (hB : B ≤ b0) (hw : w.heap.size ≤ b0) (hb : Below w.heap.size w Ws) : MapRet w B ms (.returned (RV.val ⟨6, 0, ⟨#[]⟩, none, 0, 0, p, n, c⟩)) (((((W.setCell ⟨b0, 0, none⟩ (.int .i64 6)).setCell ⟨b0, 1, none⟩ (.int .i64 0)).setCell ⟨b0, 2, none⟩ (.string ⟨#[]⟩)).setCell ⟨b0, 3, none⟩ (.slice none 0 0)).setCell ⟨b0, 4, none⟩ (.slice p n c)) := by
  obtain ⟨rms, h1, h2⟩ := h.own
  refine ⟨p, n, c, rms, rfl, ?_, h2.under (Below.stored (Below.refl _ _) (by omega) ⟨6, 0, ⟨#[]⟩, none, 0, 0, p, n, c⟩) (Nat.le_refl _), Below.stored (hb.trans (h.below.mono hw)) hw ⟨6, 0, ⟨#[]⟩, none, 0, 0, p, n, c⟩⟩
  exact (h1.kept (grownBy_set5 W b0 ⟨6, 0, ⟨#[]⟩, none, 0, 0, p, n, c⟩) (.inr (fun e => by have := (h1.lt _ e).1; omega))).mono (by omega)
theorem showM_take {v names : JV} {k : Nat} {y : ByteArray × JV} (h : v.m[k]? = some y) : (v.m.take (k + 1)).filter (showP names) = (v.m.take k).filter (showP names) ++ (if showP names y = true then [y] else []) := by
  rw [List.take_add_one, h, List.filter_append]
  cases hs : showP names y <;> simp [hs]
theorem idN_list : idN.toList = [105, 100] := by unfold idN; rw [ByteArray.toList_eq]
abbrev OV (id : ByteArray) (r : RV) : Value := .agg #[.string id, .int .i64 r.k, .int .i64 r.n, .string r.s, .slice r.pl r.nl r.cl, .slice r.pm r.nm r.cm]

set_option maxRecDepth 100000 in
set_option maxHeartbeats 8000000 in
theorem show_any (id : ByteArray) (vt nt : JV) (vr nr : RV) (w : World) (B : Nat) (hBw : B ≤ w.heap.size) (hv : TreeOf w B vt vr) (hn : TreeOf w w.heap.size nt nr) (hvm : vt.m.length ≤ 90000) (hnl : nt.l.length ≤ 1759218604390) :
    Calls Tryz.prog 12 #[OV id vr, RV.val nr] w (MapRet w B ((idN, textJ id) :: showM vt nt)) := by
  obtain ⟨rms, hm, hms, hk⟩ := hv.mems
  obtain ⟨nrs, hnr, hnlen, hnt⟩ := hn.lst
  obtain ⟨hnk, _, _⟩ := hn.head
  have hni := nameIn_rs hnlen hnt
  rw [hnk] at hni
  have HNI := Lib.hid hni
  obtain ⟨vk, vn, vs, vpl, vnl, vcl, vpm, vnm, vcm⟩ := vr
  obtain ⟨nk, nn, ns, npl, nnl, ncl, npm, nnm, ncm⟩ := nr
  dsimp only [RV.val, OV] at *
  have eM := rd_nlen hm
  have hnm : vnm ≤ 90000 := by have := hms.len; omega
  have E2 : Hid (vt.m.length = vnm ∧ rms.length = vnm) := ⟨by have := hms.len; omega, by omega⟩
  have HMS := Lib.hid hms
  have HM := Lib.hid hm
  have HNR := Lib.hid hnr
  have HNL : Hid (nrs.length ≤ 1759218604390) := by unfold Hid; omega
  obtain ⟨W0, hW0⟩ : ∃ W0, ((w.alloc (.cells #[.string id, .int .i64 vk, .int .i64 vn, .string vs, .slice vpl vnl vcl, .slice vpm vnm vcm] 40)).alloc (.cells #[.int .i64 nk, .int .i64 nn, .string ns, .slice npl nnl ncl, .slice npm nnm ncm] 31)).alloc (.cells #[.int .i64 0, .int .i64 0, .string ⟨#[]⟩, .slice none 0 0, .slice none 0 0] 31) = W0 := ⟨_, rfl⟩
  have hA0 : W0.heap[w.heap.size]? = some (.cells #[.string id, .int .i64 vk, .int .i64 vn, .string vs, .slice vpl vnl vcl, .slice vpm vnm vcm] 40) := by rw [← hW0]; exact heap_alloc_lt (by simp; omega) (heap_alloc_lt (by simp) (heap_alloc_at rfl))
  have hN0 : VAt W0 (w.heap.size + 1) ⟨nk, nn, ns, npl, nnl, ncl, npm, nnm, ncm⟩ := by rw [← hW0]; exact heap_alloc_lt (by simp) (heap_alloc_at (by simp))
  have hZ0 : VAt W0 (w.heap.size + 1 + 1) RV.zero := by rw [← hW0]; exact heap_alloc_at (by simp)
  have hB0 : Below w.heap.size w W0 := by rw [← hW0]; exact (below2 w _ _).alloc (by simp; omega) _
  have HW := Lib.hid hW0
  clear hm hms hnr hnt hnlen hv hn hvm hnl hk eM hni hnk hW0
  have hz0 := hZ0.lt
  go_enter Tryz.func12, Tryz.ntmps12
  go_upto_region 1 with fail
  rw [HW.out]
  clear HW
  have a0 : W0.cell? ⟨w.heap.size, 0, none⟩ = some (.string id) := (cell_of_row W0 w.heap.size 0 _ _ _ hA0).trans rfl
  have HO : Hid (∀ W, Below W0.heap.size W0 W → Calls Tryz.prog 26 #[.slice (some ⟨W.heap.size, 0, none⟩) 1 1] (W.alloc (.cells #[.string ⟨#[105, 100]⟩, .int .i64 4, .int .i64 0, .string id, .slice none 0 0, .slice none 0 0] 48)) fun e w' => ∃ p n c, e = .returned (RV.val ⟨6, 0, ⟨#[]⟩, none, 0, 0, p, n, c⟩) ∧ ShowS (w'.alloc (.cells #[.int .i64 6, .int .i64 0, .string ⟨#[]⟩, .slice none 0 0, .slice p n c] 31)) B (w.heap.size + 1 + 1) w'.heap.size [(idN, textJ id)] p n c (w'.alloc (.cells #[.int .i64 6, .int .i64 0, .string ⟨#[]⟩, .slice none 0 0, .slice p n c] 31)) ∧ Below W0.heap.size W0 w') := fun W hb =>
    (object_any [⟨idN, textR id⟩] _ 1 1 _ (Rd.one codecM (heap_alloc_new _ _) rfl (by simp)) (by simp)).mono (fun e w' h => by
      obtain ⟨p, n, c, he, ho, hb2⟩ := h
      have hb3 : Below W0.heap.size W0 w' := (hb.alloc hb.size _).trans (hb2.mono (by have := hb.size; simp; omega))
      have hsz := hb.size
      simp only [World.alloc, Array.size_push] at ho
      refine ⟨p, n, c, he, ⟨heap_alloc_at rfl, heap_alloc_lt (by have := hb3.size; omega) (hZ0.under hb3 hz0), ⟨_, (ho.mono (by omega)).alloc _, ⟨rfl, fun i y q h1 h2 => ?_, fun i y q h1 h2 => ?_⟩⟩, fun e => by have := (ho.lt _ e).2; omega, Below.refl _ _⟩, hb3⟩
      · cases i with
        | zero => simp at h1 h2; subst h1 h2; rfl
        | succ i => simp at h1
      · cases i with
        | zero => simp at h1 h2; subst h1 h2; exact (TreeS.leaf _ (fun _ => False) 4 0 id).tree (fun k h => h.elim)
        | succ i => simp at h1)
  go_upto_region 2 with (first
    | (go_at_call 28; refine (textV_any id _).mono ?_; rintro e w1 ⟨rfl, hb1⟩)
    | (go_at_call 27; refine (member_any idN (textR id) _).mono ?_; rintro e w2 ⟨rfl, hb2'⟩; (have hb2 : Below W0.heap.size W0 w2 := hb1.trans (hb2'.mono hb1.size)))
    | (go_at_call 26; refine (HO.out w2 hb2).mono ?_; rintro e w3 ⟨p3, n3, c3, rfl, hs3, hb3⟩))
  obtain ⟨g5, hg5⟩ : ∃ g, w3.heap.size = g := ⟨_, rfl⟩
  obtain ⟨W5, hW5⟩ : ∃ W, w3.alloc (.cells #[.int .i64 6, .int .i64 0, .string ⟨#[]⟩, .slice none 0 0, .slice p3 n3 c3] 31) = W := ⟨_, rfl⟩
  have hb5 : Below W0.heap.size W0 W5 := by rw [← hW5]; exact hb3.alloc hb3.size _
  have hg5z : W0.heap.size ≤ g5 := by rw [← hg5]; exact hb3.size
  rw [hW5, hg5] at hs3
  try rw [hW5]
  try rw [hg5]
  clear hW5 hg5 hb3 hb1 hb2 hb2' HO a0
  have hA5 : W5.heap[w.heap.size]? = some (.cells #[.string id, .int .i64 vk, .int .i64 vn, .string vs, .slice vpl vnl vcl, .slice vpm vnm vcm] 40) := (hb5.block _ (by omega)).trans hA0
  have HN5 := Lib.hid (hN0.under hb5 hN0.lt)
  have a5 : W5.cell? ⟨w.heap.size, 5, none⟩ = some (.slice vpm vnm vcm) := (cell_of_row W5 w.heap.size 5 _ _ _ hA5).trans rfl
  have HB5 : Hid (Below w.heap.size w W5) := hB0.trans (hb5.mono hB0.size)
  have HS3 := Lib.hid hs3
  clear hA0 hN0 hZ0 hB0 hb5 hA5 hs3
  have hmf : ∀ (fn : Fn) (first cap : Array Value) (w : World), (Instr.makeFunc fn first cap).run Tryz.prog w = .ok (.func fn first cap) w := fun _ _ _ _ => rfl
  go_wp2_with fail
  go_loopw [19] (fun i wr => ∃ (k : Nat) (p : Option Addr) (n c : Nat), k ≤ vnm ∧ i = .int .i64 k ∧ Hid (ShowS W5 B (w.heap.size + 1 + 1) g5 ((idN, textJ id) :: (vt.m.take k).filter (showP nt)) p n c wr)) (fun i _ => vnm - (intOf i).toNat)
  case atStart => exact ⟨0, p3, n3, c3, Nat.zero_le _, rfl, HS3.out⟩
  case round =>
    obtain ⟨k, p, n, c, hk, rfl, HS⟩ := hrel
    have hbr := HS.out.below
    have HBW : Hid (Below w.heap.size w wr) := HB5.out.trans (hbr.mono (by omega))
    by_cases hlt : k < vnm
    · obtain ⟨y, hy⟩ : ∃ y, vt.m[k]? = some y := ⟨_, List.getElem?_eq_getElem (by have := E2.out; omega)⟩
      obtain ⟨⟨xn, xk, xv, xs, xpl, xnl, xcl, xpm, xnm, xcm⟩, hx⟩ : ∃ x, rms[k]? = some x := ⟨_, List.getElem?_eq_getElem (by have := E2.out; omega)⟩
      have hyn := HMS.out.name k y _ hy hx
      have HTY := Lib.hid ((HMS.out.val k y _ hy hx).under (HBW.out.mono hBw) (Nat.le_refl _))
      obtain ⟨b1, o1, rfl, hb1, hc1⟩ := rd_at' (HM.out.below (HBW.out.mono hBw) (Nat.le_refl _)) hx
      have f0 := hc1 0 _ rfl
      have f1 := hc1 1 _ rfl
      have f2 := hc1 2 _ rfl
      have f3 := hc1 3 _ rfl
      have f4 := hc1 4 _ rfl
      have f5 := hc1 5 _ rfl
      rw [Nat.add_zero] at f0
      dsimp only at f0 f1 f2 f3 f4 f5 hyn
      have hk0 : (0 : Int) ≤ (k : Int) := Int.natCast_nonneg _
      have hk1 : (k : Int) < (vnm : Int) := by omega
      have HTK := Lib.hid (showM_take (names := nt) hy)
      have HYN := Lib.hid hyn
      have HN := HN5.out.under hbr (by omega)
      have HNI2 := Lib.hid (HNI.out y.1)
      clear hy hx hc1 hyn hbr
      go_upto_region 5 with fail
      have hsa := HS.out.step (by omega) ((Below.refl _ _).alloc (Nat.le_refl _) (.cells #[.string xn, .int .i64 xk, .int .i64 xv, .string xs, .slice xpl xnl xcl, .slice xpm xnm xcm] 48))
      have hma : (wr.alloc (.cells #[.string xn, .int .i64 xk, .int .i64 xv, .string xs, .slice xpl xnl xcl, .slice xpm xnm xcm] 48)).heap[wr.heap.size]? = some (.cells #[.string xn, .int .i64 xk, .int .i64 xv, .string xs, .slice xpl xnl xcl, .slice xpm xnm xcm] 48) := heap_alloc_at rfl
      have hna : VAt (wr.alloc (.cells #[.string xn, .int .i64 xk, .int .i64 xv, .string xs, .slice xpl xnl xcl, .slice xpm xnm xcm] 48)) (w.heap.size + 1) ⟨nk, nn, ns, npl, nnl, ncl, npm, nnm, ncm⟩ := heap_alloc_lt HN.lt HN
      have hbm : Below w.heap.size w (wr.alloc (.cells #[.string xn, .int .i64 xk, .int .i64 xv, .string xs, .slice xpl xnl xcl, .slice xpm xnm xcm] 48)) := HBW.out.alloc HBW.out.size _
      have hty := HTY.out.under (((Below.refl w.heap.size wr).alloc HBW.out.size (.cells #[.string xn, .int .i64 xk, .int .i64 xv, .string xs, .slice xpl xnl xcl, .slice xpm xnm xcm] 48)).mono hBw) (Nat.le_refl _)
      have hg7 : wr.heap.size < (wr.alloc (.cells #[.string xn, .int .i64 xk, .int .i64 xv, .string xs, .slice xpl xnl xcl, .slice xpm xnm xcm] 48)).heap.size := by simp
      have hg70 : w.heap.size + 1 + 1 < wr.heap.size := HS.out.zero.lt
      have hg71 : g5 < wr.heap.size := HS.out.out.lt
      obtain ⟨g7, hg7e⟩ : ∃ g, wr.heap.size = g := ⟨_, rfl⟩
      obtain ⟨W6, hW6⟩ : ∃ W, wr.alloc (.cells #[.string xn, .int .i64 xk, .int .i64 xv, .string xs, .slice xpl xnl xcl, .slice xpm xnm xcm] 48) = W := ⟨_, rfl⟩
      rw [hW6] at hsa hma hna hbm hty hg7
      rw [hg7e] at hma hg7 hg70 hg71
      try rw [hW6]
      try rw [hg7e]
      have HS6 := Lib.hid hsa
      have HB6 := Lib.hid hbm
      have HM7 := Lib.hid hma
      have HTY6 := Lib.hid hty
      clear hW6 hg7e hsa hbm hty HTY HBW HN HS
      have m0 : W6.cell? ⟨g7, 0, none⟩ = some (.string xn) := (cell_of_row W6 g7 0 _ _ _ hma).trans rfl
      have n0 := hna.cell 0 rfl
      have n3 := hna.cell 3 rfl
      dsimp only at n0 n3
      clear hma hna f0 f1 f2 f3 f4 f5
      cases hq : (nk != 5)
      · have HC : Hid (Calls Tryz.prog 40 #[.slice npl nnl ncl, .func (.func 41) #[] #[.pointer (some ⟨g7, 0, none⟩)]] W6 fun e w' => e = .returned (.bool (anyV (isTx xn) nrs)) ∧ Below W6.heap.size W6 w') :=
          containsSh_any W6 npl nnl ncl g7 nrs (isTx xn) (HNR.out.below HB6.out HB6.out.size) HNL.out (fun i x hx W hb => showX_any x g7 xn W (bcs hb hg7 m0))
        have hnb : nameIn nt y.1 = anyV (isTx xn) nrs := by
          rw [HNI2.out, HYN.out]
          have h5 : nk = 5 := by simpa using hq
          rw [h5]
          simp
        obtain ⟨b, hb⟩ : ∃ b, anyV (isTx xn) nrs = b := ⟨_, rfl⟩
        rw [hb] at HC hnb
        have HNB := Lib.hid hnb
        clear hb hnb
        cases b
        all_goals
          go_upto_region 6 with (go_at_call 40; refine HC.out.mono ?_; rintro e w7 ⟨rfl, hb7⟩)
        · have HRL : Hid (ShowS W5 B (w.heap.size + 1 + 1) g5 ((idN, textJ id) :: (vt.m.take (k + 1)).filter (showP nt)) p n c w7) := by
            unfold Hid
            have hp : showP nt y = false := by unfold showP; rw [HNB.out]; rfl
            rw [HTK.out, hp]
            simpa using HS6.out.step (by omega) hb7
          clear hb7
          go_wp2_with fail
          go_roundw
          case rel => exact ⟨k + 1, p, n, c, by omega, by go_num, HRL⟩
          case measure => simp [intOf]; omega
        · clear HC m0 n0 n3
          have HS7 := Lib.hid (HS6.out.step (by omega) hb7)
          have HTY7 : Hid (TreeOf w7 B y.2 ⟨xk, xv, xs, xpl, xnl, xcl, xpm, xnm, xcm⟩) := HTY6.out.under (hb7.mono (Nat.le_trans hBw HB6.out.size)) (Nat.le_refl _)
          have hm7 : w7.heap[g7]? = some (.cells #[.string xn, .int .i64 xk, .int .i64 xv, .string xs, .slice xpl xnl xcl, .slice xpm xnm xcm] 48) := (hb7.block _ hg7).trans HM7.out
          have m0 : w7.cell? ⟨g7, 0, none⟩ = some (.string xn) := (cell_of_row w7 g7 0 _ _ _ hm7).trans rfl
          have m1 : w7.cell? ⟨g7, 1, none⟩ = some (.int .i64 xk) := (cell_of_row w7 g7 1 _ _ _ hm7).trans rfl
          have m2 : w7.cell? ⟨g7, 2, none⟩ = some (.int .i64 xv) := (cell_of_row w7 g7 2 _ _ _ hm7).trans rfl
          have m3 : w7.cell? ⟨g7, 3, none⟩ = some (.string xs) := (cell_of_row w7 g7 3 _ _ _ hm7).trans rfl
          have m4 : w7.cell? ⟨g7, 4, none⟩ = some (.slice xpl xnl xcl) := (cell_of_row w7 g7 4 _ _ _ hm7).trans rfl
          have m5 : w7.cell? ⟨g7, 5, none⟩ = some (.slice xpm xnm xcm) := (cell_of_row w7 g7 5 _ _ _ hm7).trans rfl
          have o4 := HS7.out.out.cell 4 rfl
          dsimp only at o4
          have hg77 : g7 < w7.heap.size := Nat.lt_of_lt_of_le hg7 hb7.size
          clear hm7 hb7
          by_cases hid : xn = idN
          · have q1 : (xn.toList == [105, 100]) = true := by rw [← idN_list, str_beq]; exact decide_eq_true hid
            have q2 : (xn.toList != [105, 100]) = false := by rw [bne, q1]; rfl
            have HRL : Hid (ShowS W5 B (w.heap.size + 1 + 1) g5 ((idN, textJ id) :: (vt.m.take (k + 1)).filter (showP nt)) p n c w7) := by
              unfold Hid
              have hp : showP nt y = false := by unfold showP; rw [HYN.out, decide_eq_false (by simpa using hid)]; simp
              rw [HTK.out, hp]
              simpa using HS7.out
            clear hid
            go_wp2_with fail
            go_roundw
            case rel => exact ⟨k + 1, p, n, c, by omega, by go_num, HRL⟩
            case measure => simp [intOf]; omega
          · have q1 : (xn.toList == [105, 100]) = false := by rw [← idN_list, str_beq]; exact decide_eq_false hid
            have q2 : (xn.toList != [105, 100]) = true := by rw [bne, q1]; rfl
            obtain ⟨rm7, ho7, hms7⟩ := HS7.out.own
            have hl7 : rm7.length ≤ 90001 := by
              have h1 := hms7.len
              have h2 : ((vt.m.take k).filter (showP nt)).length ≤ k := Nat.le_trans (List.length_filter_le _ _) (List.length_take_le _ _)
              simp only [List.length_cons] at h1
              omega
            have HP7 : Hid (∀ (p2 : Option Addr) (n2 c2 : Nat) (W2 : World), Own W2 (w.heap.size + 1 + 1 + 1) 48 encM 6 (.slice p2 n2 c2) (rm7 ++ [⟨xn, ⟨xk, xv, xs, xpl, xnl, xcl, xpm, xnm, xcm⟩⟩]) → (w7.alloc (.cells #[.string xn, .int .i64 xk, .int .i64 xv, .string xs, .slice xpl xnl xcl, .slice xpm xnm xcm] 48)).grownBy W2 (Value.slice p n c).ownBlock → ((Value.slice p2 n2 c2).ownBlock = (Value.slice p n c).ownBlock ∨ (Value.slice p2 n2 c2).ownBlock = some (w7.alloc (.cells #[.string xn, .int .i64 xk, .int .i64 xv, .string xs, .slice xpl xnl xcl, .slice xpm xnm xcm] 48)).heap.size) →
                ShowS W5 B (w.heap.size + 1 + 1) g5 ((idN, textJ id) :: (vt.m.take (k + 1)).filter (showP nt)) p2 n2 c2 (W2.setCell ⟨g5, 4, none⟩ (.slice p2 n2 c2)) ∧ VAt W2 g5 ⟨6, 0, ⟨#[]⟩, none, 0, 0, p, n, c⟩) := fun p2 n2 c2 W2 h1 h2 h3 => by
              have hp : showP nt y = true := by unfold showP; rw [HNB.out, HYN.out, decide_eq_true hid]; rfl
              have hx := HS7.out.push (y := y) (by omega) ho7 hms7 ((Below.refl _ _).alloc (Nat.le_refl _) (.cells #[.string xn, .int .i64 xk, .int .i64 xv, .string xs, .slice xpl xnl xcl, .slice xpm xnm xcm] 48)) (by omega) h1 h2 h3 HYN.out HTY7.out
              rw [HTK.out, hp]
              refine ⟨hx, (h2.block g5 (by have := HS7.out.out.lt; simp; omega) (fun e => HS7.out.no e.symm)).trans (heap_alloc_lt HS7.out.out.lt HS7.out.out)⟩
            have HO7 := Lib.hid (ho7.alloc (.cells #[.string xn, .int .i64 xk, .int .i64 xv, .string xs, .slice xpl xnl xcl, .slice xpm xnm xcm] 48))
            have HR7 : Hid (Rd (w7.alloc (.cells #[.string xn, .int .i64 xk, .int .i64 xv, .string xs, .slice xpl xnl xcl, .slice xpm xnm xcm] 48)) (w7.heap.size + 1) encM 6 (.slice (some ⟨w7.heap.size, 0, none⟩) 1 1) [(⟨xn, ⟨xk, xv, xs, xpl, xnl, xcl, xpm, xnm, xcm⟩⟩ : RM)]) := Rd.one codecM (heap_alloc_new _ _) rfl (by omega)
            have HL7 := Lib.hid hl7
            clear hid ho7 hms7 hl7 HS7 HTY7
            go_wp2_with (at_builtin; refine wpList_append_rd slM codecM (w7.alloc (.cells #[.string xn, .int .i64 xk, .int .i64 xv, .string xs, .slice xpl xnl xcl, .slice xpm xnm xcm] 48)) rfl (.tmp 39) (.tmp 41) rfl (v := .slice p n c) rfl rfl HO7.out HR7.out (by have := HL7.out; simp only [List.length_singleton]; unfold maxLen; omega) (by have := HL7.out; simp only [List.length_singleton]; omega) (by simp; omega) ?_; intro v8 w8 ho8 hg8 hat8; obtain ⟨p8, n8, c8, rfl⟩ : ∃ p n c, v8 = Value.slice p n c := (by obtain ⟨p, c, hv, _, _⟩ := ho8.len; exact ⟨p, _, c, hv⟩); obtain ⟨hs8, hv8⟩ := HP7.out _ _ _ _ ho8 hg8 hat8; (have y84 := hv8.frozen 4); (have c84 := hv8.cell 4 rfl); dsimp only at c84; (have HS8 := Lib.hid hs8); clear ho8 hg8 hat8 hs8 hv8)
            go_roundw
            case rel => exact ⟨k + 1, p8, n8, c8, by omega, by go_num, HS8⟩
            case measure => simp [intOf]; omega
      · have HNB : Hid (nameIn nt y.1 = true) := by
          unfold Hid
          rw [HNI2.out]
          have h5 : nk ≠ 5 := by simpa using hq
          simp [h5]
        go_upto_region 6 with fail
        clear m0 n0 n3
        obtain ⟨w7, rfl⟩ : ∃ W, W = W6 := ⟨_, rfl⟩
        have hb7 : Below w7.heap.size w7 w7 := Below.refl _ _
        have HS7 := Lib.hid (HS6.out.step (by omega) hb7)
        have HTY7 : Hid (TreeOf w7 B y.2 ⟨xk, xv, xs, xpl, xnl, xcl, xpm, xnm, xcm⟩) := HTY6.out.under (hb7.mono (Nat.le_trans hBw HB6.out.size)) (Nat.le_refl _)
        have hm7 : w7.heap[g7]? = some (.cells #[.string xn, .int .i64 xk, .int .i64 xv, .string xs, .slice xpl xnl xcl, .slice xpm xnm xcm] 48) := (hb7.block _ hg7).trans HM7.out
        have m0 : w7.cell? ⟨g7, 0, none⟩ = some (.string xn) := (cell_of_row w7 g7 0 _ _ _ hm7).trans rfl
        have m1 : w7.cell? ⟨g7, 1, none⟩ = some (.int .i64 xk) := (cell_of_row w7 g7 1 _ _ _ hm7).trans rfl
        have m2 : w7.cell? ⟨g7, 2, none⟩ = some (.int .i64 xv) := (cell_of_row w7 g7 2 _ _ _ hm7).trans rfl
        have m3 : w7.cell? ⟨g7, 3, none⟩ = some (.string xs) := (cell_of_row w7 g7 3 _ _ _ hm7).trans rfl
        have m4 : w7.cell? ⟨g7, 4, none⟩ = some (.slice xpl xnl xcl) := (cell_of_row w7 g7 4 _ _ _ hm7).trans rfl
        have m5 : w7.cell? ⟨g7, 5, none⟩ = some (.slice xpm xnm xcm) := (cell_of_row w7 g7 5 _ _ _ hm7).trans rfl
        have o4 := HS7.out.out.cell 4 rfl
        dsimp only at o4
        have hg77 : g7 < w7.heap.size := Nat.lt_of_lt_of_le hg7 hb7.size
        clear hm7 hb7
        by_cases hid : xn = idN
        · have q1 : (xn.toList == [105, 100]) = true := by rw [← idN_list, str_beq]; exact decide_eq_true hid
          have q2 : (xn.toList != [105, 100]) = false := by rw [bne, q1]; rfl
          have HRL : Hid (ShowS W5 B (w.heap.size + 1 + 1) g5 ((idN, textJ id) :: (vt.m.take (k + 1)).filter (showP nt)) p n c w7) := by
            unfold Hid
            have hp : showP nt y = false := by unfold showP; rw [HYN.out, decide_eq_false (by simpa using hid)]; simp
            rw [HTK.out, hp]
            simpa using HS7.out
          clear hid
          go_wp2_with fail
          go_roundw
          case rel => exact ⟨k + 1, p, n, c, by omega, by go_num, HRL⟩
          case measure => simp [intOf]; omega
        · have q1 : (xn.toList == [105, 100]) = false := by rw [← idN_list, str_beq]; exact decide_eq_false hid
          have q2 : (xn.toList != [105, 100]) = true := by rw [bne, q1]; rfl
          obtain ⟨rm7, ho7, hms7⟩ := HS7.out.own
          have hl7 : rm7.length ≤ 90001 := by
            have h1 := hms7.len
            have h2 : ((vt.m.take k).filter (showP nt)).length ≤ k := Nat.le_trans (List.length_filter_le _ _) (List.length_take_le _ _)
            simp only [List.length_cons] at h1
            omega
          have HP7 : Hid (∀ (p2 : Option Addr) (n2 c2 : Nat) (W2 : World), Own W2 (w.heap.size + 1 + 1 + 1) 48 encM 6 (.slice p2 n2 c2) (rm7 ++ [⟨xn, ⟨xk, xv, xs, xpl, xnl, xcl, xpm, xnm, xcm⟩⟩]) → (w7.alloc (.cells #[.string xn, .int .i64 xk, .int .i64 xv, .string xs, .slice xpl xnl xcl, .slice xpm xnm xcm] 48)).grownBy W2 (Value.slice p n c).ownBlock → ((Value.slice p2 n2 c2).ownBlock = (Value.slice p n c).ownBlock ∨ (Value.slice p2 n2 c2).ownBlock = some (w7.alloc (.cells #[.string xn, .int .i64 xk, .int .i64 xv, .string xs, .slice xpl xnl xcl, .slice xpm xnm xcm] 48)).heap.size) →
              ShowS W5 B (w.heap.size + 1 + 1) g5 ((idN, textJ id) :: (vt.m.take (k + 1)).filter (showP nt)) p2 n2 c2 (W2.setCell ⟨g5, 4, none⟩ (.slice p2 n2 c2)) ∧ VAt W2 g5 ⟨6, 0, ⟨#[]⟩, none, 0, 0, p, n, c⟩) := fun p2 n2 c2 W2 h1 h2 h3 => by
            have hp : showP nt y = true := by unfold showP; rw [HNB.out, HYN.out, decide_eq_true hid]; rfl
            have hx := HS7.out.push (y := y) (by omega) ho7 hms7 ((Below.refl _ _).alloc (Nat.le_refl _) (.cells #[.string xn, .int .i64 xk, .int .i64 xv, .string xs, .slice xpl xnl xcl, .slice xpm xnm xcm] 48)) (by omega) h1 h2 h3 HYN.out HTY7.out
            rw [HTK.out, hp]
            refine ⟨hx, (h2.block g5 (by have := HS7.out.out.lt; simp; omega) (fun e => HS7.out.no e.symm)).trans (heap_alloc_lt HS7.out.out.lt HS7.out.out)⟩
          have HO7 := Lib.hid (ho7.alloc (.cells #[.string xn, .int .i64 xk, .int .i64 xv, .string xs, .slice xpl xnl xcl, .slice xpm xnm xcm] 48))
          have HR7 : Hid (Rd (w7.alloc (.cells #[.string xn, .int .i64 xk, .int .i64 xv, .string xs, .slice xpl xnl xcl, .slice xpm xnm xcm] 48)) (w7.heap.size + 1) encM 6 (.slice (some ⟨w7.heap.size, 0, none⟩) 1 1) [(⟨xn, ⟨xk, xv, xs, xpl, xnl, xcl, xpm, xnm, xcm⟩⟩ : RM)]) := Rd.one codecM (heap_alloc_new _ _) rfl (by omega)
          have HL7 := Lib.hid hl7
          clear hid ho7 hms7 hl7 HS7 HTY7
          go_wp2_with (at_builtin; refine wpList_append_rd slM codecM (w7.alloc (.cells #[.string xn, .int .i64 xk, .int .i64 xv, .string xs, .slice xpl xnl xcl, .slice xpm xnm xcm] 48)) rfl (.tmp 39) (.tmp 41) rfl (v := .slice p n c) rfl rfl HO7.out HR7.out (by have := HL7.out; simp only [List.length_singleton]; unfold maxLen; omega) (by have := HL7.out; simp only [List.length_singleton]; omega) (by simp; omega) ?_; intro v8 w8 ho8 hg8 hat8; obtain ⟨p8, n8, c8, rfl⟩ : ∃ p n c, v8 = Value.slice p n c := (by obtain ⟨p, c, hv, _, _⟩ := ho8.len; exact ⟨p, _, c, hv⟩); obtain ⟨hs8, hv8⟩ := HP7.out _ _ _ _ ho8 hg8 hat8; (have y84 := hv8.frozen 4); (have c84 := hv8.cell 4 rfl); dsimp only at c84; (have HS8 := Lib.hid hs8); clear ho8 hg8 hat8 hs8 hv8)
          go_roundw
          case rel => exact ⟨k + 1, p8, n8, c8, by omega, by go_num, HS8⟩
          case measure => simp [intOf]; omega
    · obtain rfl : k = vnm := by omega
      have hs : (vt.m.take k).filter (showP nt) = showM vt nt := by unfold showM; rw [List.take_of_length_le (by have := E2.out; omega)]
      have hfin := (HS.out.fin (by omega) (by omega) HB5.out : MapRet w B _ _ _)
      rw [hs] at hfin
      have HF := Lib.hid hfin
      have hZ := HS.out.zero
      have hO := HS.out.out
      have z0 := hZ.cell 0 rfl
      have z1 := hZ.cell 1 rfl
      have z2 := hZ.cell 2 rfl
      have z3 := hZ.cell 3 rfl
      have z4 := hZ.cell 4 rfl
      have y0 := hZ.frozen 0
      have y1 := hZ.frozen 1
      have y2 := hZ.frozen 2
      have y3 := hZ.frozen 3
      have y4 := hZ.frozen 4
      have m0 := hO.cell 0 rfl
      have m1 := hO.cell 1 rfl
      have m2 := hO.cell 2 rfl
      have m3 := hO.cell 3 rfl
      have m4 := hO.cell 4 rfl
      dsimp only [RV.zero] at z0 z1 z2 z3 z4 m0 m1 m2 m3 m4
      clear hZ hO hs hfin
      go_wp2_with fail
      exact bodyPost_ret (v := RV.val ⟨6, 0, ⟨#[]⟩, none, 0, 0, p, n, c⟩) (by simp [results, Tryz.results12, go_sem, z0, z1, z2, z3, z4]) rfl HF.out
end Go.Proofs.YtanemojiaahbgaaGreatDoor
end

section
/- A value of JSON that came in reads as a tree. -/
set_option linter.unusedSimpArgs false
set_option linter.unusedVariables false
set_option maxRecDepth 100000
namespace Go.Proofs.YtanemojiaahbgaaGreatDoor
open Go Go.RowKit Go.ChangeShapes Go.WideShapes Go.Deep

section
variable {H : Type} {enc : TypeId × Value → H} {W : World} {base b0 : Nat} {spare : Nat → Bool} {held : Bool}
theorem cel1 : Tryz.prog.cellsOf 2 = 1 := by kernel_rfl
theorem cel2 : Tryz.prog.cellsOf 3 = 1 := by kernel_rfl
theorem cel3 : Tryz.prog.cellsOf 9 = 1 := by kernel_rfl
theorem cel4 : Tryz.prog.cellsOf 28 = 1 := by kernel_rfl
theorem cel5 : Tryz.prog.cellsOf 29 = 1 := by kernel_rfl

theorem weights_string {t : TypeId} {s : ByteArray} {R : Nat} (h : ∀ n ∈ (DataW.lit (H := H) (.string s.data.toList)).weights Tryz.prog t, n ≤ R) : s.size ≤ R := by
  have := h s.data.toList.length (by simp [DataW.weights])
  simpa using this

theorem open_val : ∀ (fuel : Nat) (cs : List Value) (x : DataW H × List MemPlace), DataW.trod enc Tryz.prog W base spare held fuel 31 cs = some x →
    ∃ r t, cs = encV r ∧ TreeOf W W.heap.size t r ∧ ((∀ n ∈ x.1.weights Tryz.prog 31, n ≤ 140737488351232) → t.Ok) := by
  intro fuel
  induction fuel using Nat.strongRecOn with
  | ind fuel ih =>
    intro cs x h
    obtain ⟨y0, y1, y2, y3, y4, n, rfl, hx1, hlen, t0, t1, t2, t3, t4⟩ := trodF5 Tryz.underlying31 h
    rw [cellsV] at hlen
    obtain ⟨c0, c1, c2, c3, c4, rfl⟩ : ∃ c0 c1 c2 c3 c4, cs = [c0, c1, c2, c3, c4] := by
      match cs, hlen with
      | [a, b, c, d, e], _ => exact ⟨a, b, c, d, e, rfl⟩
    rw [hx1]
    dsimp only at t0 t1 t2 t3 t4
    rw [cel2] at t0
    rw [cel1] at t1
    rw [cel3] at t2
    rw [cel4] at t3
    rw [cel5] at t4
    simp only [List.drop_zero, List.drop_succ_cons, List.take_succ_cons, List.take_zero] at t0 t1 t2 t3 t4
    obtain ⟨k, e0, f0, w0⟩ := DataW.trod_int Tryz.underlying3 t0
    obtain ⟨n', e1, f1, w1⟩ := DataW.trod_int Tryz.underlying2 t1
    obtain ⟨s, e2, f2, w2⟩ := DataW.trod_string Tryz.underlying9 t2
    simp only [List.cons.injEq, and_true] at e0 e1 e2
    subst e0 e1 e2 f0 f1 f2
    obtain ⟨pl, nl, cl, rs, e3, hr3, hd3⟩ := open_list (Q := fun (r : RV) (d : DataW H) => ∃ t, TreeOf W W.heap.size t r ∧ ((∀ n ∈ d.weights Tryz.prog 31, n ≤ 140737488351232) → t.Ok)) Tryz.underlying28 cellsV codecV t3
      (fun m hm cs y hy => by
        obtain ⟨r, t, h1, h2⟩ := ih m (by omega) cs y hy
        exact ⟨r, h1, t, h2⟩)
    obtain ⟨pm, nm, cm, rms, e4, hr4, hd4⟩ := open_list (Q := fun (r : RM) (d : DataW H) => ∃ t, TreeOf W W.heap.size t r.v ∧ ((∀ n ∈ d.weights Tryz.prog 48, n ≤ 140737488351232) → r.name.size ≤ 140737488351232 ∧ t.Ok)) Tryz.underlying29 cellsM codecM t4
      (fun m hm cs y hy => by
        obtain ⟨z0, z1, j, rfl, hy1, hlen, u0, u1⟩ := trodF2 Tryz.underlying48 hy
        rw [cellsM] at hlen
        obtain ⟨a0, a1, a2, a3, a4, a5, rfl⟩ : ∃ a0 a1 a2 a3 a4 a5, cs = [a0, a1, a2, a3, a4, a5] := by
          match cs, hlen with
          | [a, b, c, d, e, f], _ => exact ⟨a, b, c, d, e, f, rfl⟩
        rw [hy1]
        dsimp only at u0 u1
        rw [cel3] at u0
        rw [cellsV] at u1
        simp only [List.drop_zero, List.drop_succ_cons, List.take_succ_cons, List.take_zero] at u0 u1
        obtain ⟨nm, g0, g1, g2⟩ := DataW.trod_string Tryz.underlying9 u0
        simp only [List.cons.injEq, and_true] at g0
        subst g0 g1
        obtain ⟨r, t, h1, h2, h3⟩ := ih j (by omega) _ _ u1
        refine ⟨⟨nm, r⟩, by rw [h1]; rfl, t, h2, fun hw => ⟨weights_string (weights_struct Tryz.underlying48 hw (i := 0) rfl rfl), h3 (weights_struct Tryz.underlying48 hw (i := 1) rfl rfl)⟩⟩)
    simp only [List.cons.injEq, and_true] at e3 e4
    subst e3 e4
    have nl_eq : nl = rs.length := by
      obtain ⟨_, _, e, _⟩ := hr3
      simp only [Value.slice.injEq] at e; exact e.2.1
    have nm_eq : nm = rms.length := by
      obtain ⟨_, _, e, _⟩ := hr4
      simp only [Value.slice.injEq] at e; exact e.2.1
    have hL : ∀ i, i < rs.length → ∃ t : JV, ∀ q, rs[i]? = some q → TreeOf W W.heap.size t q ∧ ((∀ n ∈ y3.1.weights Tryz.prog 28, n ≤ 140737488351232) → t.Ok) := by
      intro i hi
      obtain ⟨q, hq⟩ : ∃ q, rs[i]? = some q := ⟨_, List.getElem?_eq_getElem hi⟩
      rcases hd3 with ⟨rfl, _⟩ | ⟨es, sp, h1, h2, h3⟩
      · simp at hi
      · obtain ⟨d, hd, t, ht1, ht2⟩ := h3 i q hq
        refine ⟨t, fun q' hq' => ?_⟩
        rw [hq] at hq'
        cases hq'
        refine ⟨ht1, fun hw => ht2 ?_⟩
        rw [h1] at hw
        exact (weights_slice Tryz.underlying28 hw).2 d (List.mem_of_getElem? hd)
    have hM : ∀ i, i < rms.length → ∃ p : ByteArray × JV, ∀ q, rms[i]? = some q → p.1 = q.name ∧ TreeOf W W.heap.size p.2 q.v ∧ ((∀ n ∈ y4.1.weights Tryz.prog 29, n ≤ 140737488351232) → p.1.size ≤ 140737488351232 ∧ p.2.Ok) := by
      intro i hi
      obtain ⟨q, hq⟩ : ∃ q, rms[i]? = some q := ⟨_, List.getElem?_eq_getElem hi⟩
      rcases hd4 with ⟨rfl, _⟩ | ⟨es, sp, h1, h2, h3⟩
      · simp at hi
      · obtain ⟨d, hd, t, ht1, ht2⟩ := h3 i q hq
        refine ⟨(q.name, t), fun q' hq' => ?_⟩
        rw [hq] at hq'
        cases hq'
        refine ⟨rfl, ht1, fun hw => ht2 ?_⟩
        rw [h1] at hw
        exact (weights_slice Tryz.underlying29 hw).2 d (List.mem_of_getElem? hd)
    obtain ⟨ts, hts, hts2⟩ := list_of rs.length hL
    obtain ⟨ps, hps, hps2⟩ := list_of rms.length hM
    refine ⟨⟨k, n', s, pl, nl, cl, pm, nm, cm⟩, .mk k n' s ts ps, rfl, ?_, fun hw => ?_⟩
    · exact TreeOf.mk (r := ⟨k, n', s, pl, nl, cl, pm, nm, cm⟩) hr3 hts (fun i t q h1 h2 => (hts2 i t h1 q h2).1) hr4 hps (fun i p q h1 h2 => (hps2 i p h1 q h2).1) (fun i p q h1 h2 => (hps2 i p h1 q h2).2.1)
    · have v2 := weights_string (weights_struct Tryz.underlying31 hw (i := 2) rfl rfl)
      have v3 : ∀ n ∈ y3.1.weights Tryz.prog 28, n ≤ 140737488351232 := weights_struct Tryz.underlying31 hw (i := 3) rfl rfl
      have v4 : ∀ n ∈ y4.1.weights Tryz.prog 29, n ≤ 140737488351232 := weights_struct Tryz.underlying31 hw (i := 4) rfl rfl
      refine .mk w0 w1 v2 ?_ ?_ (fun i x hx => ?_) (fun i p hp => ?_) (fun i p hp => ?_)
      · rcases hd3 with ⟨rfl, _⟩ | ⟨es, sp, h1, h2, _⟩
        · rw [hts]; simp
        · rw [h1] at v3
          have := (weights_slice Tryz.underlying28 v3).1
          rw [bytesV] at this
          omega
      · rcases hd4 with ⟨rfl, _⟩ | ⟨es, sp, h1, h2, _⟩
        · rw [hps]; simp
        · rw [h1] at v4
          have := (weights_slice Tryz.underlying29 v4).1
          rw [bytesM] at this
          omega
      · obtain ⟨q, hq⟩ : ∃ q, rs[i]? = some q := ⟨_, List.getElem?_eq_getElem (by have := (List.getElem?_eq_some_iff.1 hx).1; omega)⟩
        exact (hts2 i x hx q hq).2 v3
      · obtain ⟨q, hq⟩ : ∃ q, rms[i]? = some q := ⟨_, List.getElem?_eq_getElem (by have := (List.getElem?_eq_some_iff.1 hp).1; omega)⟩
        exact ((hps2 i p hp q hq).2.2 v4).1
      · obtain ⟨q, hq⟩ : ∃ q, rms[i]? = some q := ⟨_, List.getElem?_eq_getElem (by have := (List.getElem?_eq_some_iff.1 hp).1; omega)⟩
        exact ((hps2 i p hp q hq).2.2 v4).2

theorem open_value {v : Value} {d : DataW H} {p : List MemPlace} (hval : Value.okWide Tryz.prog W .any b0 31 v) (h : DataW.Trod enc Tryz.prog W base spare held 31 v d p) :
    ∃ r t, v = RV.val r ∧ TreeOf W W.heap.size t r ∧ ((∀ n ∈ d.weights Tryz.prog 31, n ≤ 140737488351232) → t.Ok) := by
  obtain ⟨cs, rfl, hsz⟩ := okWide_struct Tryz.underlying31 hval
  obtain ⟨fuel, hf⟩ := h
  obtain ⟨r, t, h1, h2, h3⟩ := open_val fuel _ _ hf
  refine ⟨r, t, ?_, h2, h3⟩
  have : cs = (encV r).toArray := by
    apply Array.ext'
    simpa [Value.cells] using h1
  rw [this]
  rfl
end
#print axioms open_value
end Go.Proofs.YtanemojiaahbgaaGreatDoor
end

section
set_option linter.unusedSimpArgs false
set_option linter.unusedVariables false
namespace Go.Proofs.YtanemojiaahbgaaGreatDoor
open Go.RowKit

theorem ret_bool {a b : Bool} (h : a = b) : Ending.returned (.bool a) = .returned (.bool b) := by rw [h]

/-- May something become of an object behind something else? -/
def mayB (was what : Int) : Bool := if what = 1 then was == 0 else if what = 2 ∨ what = 3 then was != 3 else false

/-- An entry of a trail. -/
structure En where
  seq : Int
  id : ByteArray
  what : Int
deriving DecidableEq

/-- Its numbers fit, its text has a length that may be. -/
def En.ok (e : En) : Prop := (Lit.int .i64 e.seq).wf = true ∧ e.id.size ≤ maxLen ∧ (Lit.int .i64 e.what).wf = true

theorem toList_beq (a b : ByteArray) : (a.toList == b.toList) = decide (a = b) := by
  rw [ByteArray.toList_eq, ByteArray.toList_eq]
  obtain ⟨⟨x⟩⟩ := a
  obtain ⟨⟨y⟩⟩ := b
  by_cases h : x = y
  · simp [h]
  · simp [h]

def En.eqv (a b : En) : Bool := a.seq == b.seq && a.id.toList == b.id.toList && a.what == b.what

/-- An entry, as it lies in three cells. -/
def enAt (w : World) (b o : Nat) (e : Option En) : Prop := ∃ x, e = some x ∧ w.cell? ⟨b, o, none⟩ = some (.int .i64 x.seq) ∧ w.cell? ⟨b, o + 1, none⟩ = some (.string x.id) ∧ w.cell? ⟨b, o + 2, none⟩ = some (.int .i64 x.what)

/-- A slice of entries, as it lies in memory below block B. -/
def RdE (w : World) (B : Nat) (v : Value) (es : List En) : Prop :=
  (∀ e ∈ es, e.ok) ∧ ∃ (p : Option Addr) (cap : Nat), v = .slice p es.length cap ∧ es.length ≤ cap ∧ cap ≤ maxLen ∧ (p = none → cap = 0) ∧
    ∀ a, p = some a → 0 < es.length → ∃ b o, a = ⟨b, o, none⟩ ∧ b < B ∧ ∀ i, i < es.length → enAt w b (o + i * 3) es[i]?

def sameE : List En → List En → Bool
  | [], [] => true
  | a :: l, b :: m => a.eqv b && sameE l m
  | _, _ => false

theorem slice_at {p : Option Addr} {cap n k B : Nat} {C : Nat → Nat → Nat → Prop} (h0 : p = none → cap = 0)
    (h : ∀ a, p = some a → 0 < n → ∃ b o, a = ⟨b, o, none⟩ ∧ b < B ∧ ∀ i, i < n → C b o i) (hk : k < n ∧ n ≤ cap) : ∃ b o, p = some ⟨b, o, none⟩ ∧ b < B ∧ ∀ i, i < n → C b o i := by
  cases p with
  | none => have := h0 rfl; omega
  | some a => obtain ⟨b, o, rfl, hb, hc⟩ := h a rfl (by omega); exact ⟨b, o, rfl, hb, hc⟩

theorem guardE : Tryz.prog.eqGuardType Tryz.prog.depth 121 = false := by kernel_rfl
theorem stoodE : Tryz.prog.stoodInHeld 121 = false := by kernel_rfl
theorem eqlE (a b : Int) (s t : ByteArray) (c d : Int) (w : World) : (Go.binOp .eql 121 (.agg #[.int .i64 a, .string s, .int .i64 c]) (.agg #[.int .i64 b, .string t, .int .i64 d])).run Tryz.prog w =
    .ok (.bool (a == b && s.toList == t.toList && c == d)) w := by
  have h1 := stoodE
  rw [run_eql_struct]
  simp [go_sem, h1, Tryz.underlying121]
  by_cases e1 : a = b <;> by_cases e2 : s.toList = t.toList <;> by_cases e3 : c = d <;> simp [e1, e2, e3]
theorem neqE (a b : Int) (s t : ByteArray) (c d : Int) (w : World) : (Go.binOp .neq 121 (.agg #[.int .i64 a, .string s, .int .i64 c]) (.agg #[.int .i64 b, .string t, .int .i64 d])).run Tryz.prog w =
    .ok (.bool (!(a == b && s.toList == t.toList && c == d))) w := by
  have h1 := stoodE
  rw [run_neq_struct]
  simp [go_sem, h1, Tryz.underlying121]
  by_cases e1 : a = b <;> by_cases e2 : s.toList = t.toList <;> by_cases e3 : c = d <;> simp [e1, e2, e3]

theorem sameE_snoc {l m : List En} {k : Nat} {x y : En} (hx : l[k]? = some x) (hy : m[k]? = some y) : sameE (l.take (k + 1)) (m.take (k + 1)) = (sameE (l.take k) (m.take k) && x.eqv y) := by
  induction k generalizing l m with
  | zero => cases l <;> cases m <;> simp_all [sameE]
  | succ k ih => 
    cases l with
    | nil => simp at hx
    | cons a l => cases m with
      | nil => simp at hy
      | cons b m => simp only [List.getElem?_cons_succ] at hx hy; simp only [List.take_succ_cons, sameE]; rw [ih hx hy, Bool.and_assoc]
theorem sameE_false {l m : List En} {k : Nat} {x y : En} (hx : l[k]? = some x) (hy : m[k]? = some y) (h : x.eqv y = false) : sameE l m = false := by
  induction k generalizing l m with
  | zero => cases l <;> cases m <;> simp_all [sameE]
  | succ k ih =>
    cases l with
    | nil => simp at hx
    | cons a l => cases m with
      | nil => simp at hy
      | cons b m => simp only [List.getElem?_cons_succ] at hx hy; simp only [sameE]; rw [ih hx hy, Bool.and_false]
theorem sameE_len {l m : List En} (h : l.length ≠ m.length) : sameE l m = false := by
  induction l generalizing m with
  | nil => cases m <;> simp_all [sameE]
  | cons a l ih => cases m with
    | nil => simp [sameE]
    | cons b m => simp only [sameE]; rw [ih (by simpa using h), Bool.and_false]

theorem eqv_eq (a b : En) : a.eqv b = decide (a = b) := by
  obtain ⟨s, i, x⟩ := a
  obtain ⟨t, j, y⟩ := b
  unfold En.eqv
  rw [toList_beq]
  by_cases h1 : s = t <;> by_cases h2 : i = j <;> by_cases h3 : x = y <;> simp [h1, h2, h3]
theorem sameE_eq (l m : List En) : sameE l m = decide (l = m) := by
  induction l generalizing m with
  | nil => cases m <;> simp [sameE]
  | cons a l ih => cases m with
    | nil => simp [sameE]
    | cons b m => simp only [sameE, ih, eqv_eq]; by_cases h1 : a = b <;> by_cases h2 : l = m <;> simp [h1, h2]

end Go.Proofs.YtanemojiaahbgaaGreatDoor
end
