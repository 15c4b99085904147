import Derived.Test.YtjhginendpjimaaGreatDoorA05
import Derived.Test.YtjhginendpjimaaGreatDoorA09
import Derived.Defers
import Derived.Recover
import Derived.Test.YtjhginendpjimaaGreatDoorA02
import Derived.Test.YtjhginendpjimaaGreatDoorA06
import Derived.Test.YtjhginendpjimaaGreatDoorA01
import Derived.Deep.RegionHeld3
import Derived.Deep.RegionLaw
import Derived.Test.YtjhginendpjimaaGreatDoorA00
import Derived.Shelf.SlSortCmp.KitK
import Derived.Lib.Bytealg
set_option linter.unusedSimpArgs false
set_option linter.unusedVariables false
set_option maxRecDepth 200000
set_option maxHeartbeats 8000000
namespace Go.Proofs.YtjhginendpjimaaGreatDoor
section
open Go Go.RowKit Go.OpenShut
theorem readCatch_idle (a b c : Value) (w : World) : CallsD Tryz.prog 49 #[a, b, c] .returning w fun e u' w' => e = .returned (.tuple #[]) /\ u' = .returning /\ w' = w := by
 refine callsD_of_wpS Tryz.func49 rfl fun c₀ cs hu => ?_
 apply wpS_seq
 apply wpS_region
 simp [wpOpsS, go_sem, recoverD, hu, Tryz.ntmps49, Exit.thenS]
 apply wpS_seq
 apply wpS_region
 simp [wpOpsS, go_sem, Exit.thenS]
 refine wpS_cond (t := false) (by simp [Act.eval, Array.replicate]) ?_
 simp only [Bool.false_eq_true, if_false]
 refine wpS_of_wp (wp_skip ?_)
 cases c₀
 simp_all [bodyPostS, results, Tryz.results49]
def NumBk (W : World) (ty : TypeId) (g : Nat) (n : Int) : Prop := W.heap[g]? = some (.cells #[.int .i64 n] ty (0, 0))
section
variable {W W' : World} {ty : TypeId} {g : Nat} {n : Int} (h : NumBk W ty g n)
include h
theorem NumBk.lt : g < W.heap.size := (Array.getElem?_eq_some_iff.1 h).1
theorem NumBk.cell : W.cell? ⟨g, 0, none⟩ = some (.int .i64 n) := by
 unfold NumBk at h
 rw [cell_of_row W g 0 _ _ _ h]
 rfl
theorem NumBk.frozen : W.frozen? ⟨g, 0, none⟩ = false := by
 unfold NumBk at h
 simp [World.frozen?, h]
theorem NumBk.keep (hk : W'.heap[g]? = W.heap[g]?) : NumBk W' ty g n := hk.trans h
theorem NumBk.set (m : Int) : NumBk (W.setCell ⟨g, 0, none⟩ (.int .i64 m)) ty g m := by
 unfold NumBk at h ⊢
 simp [World.setCell, Array.getElem?_modify, h]
end
def ReadRet (w : World) (v : JV) (e : Ending) (w' : World) : Prop := ∃ r : RV, e = .returned (.tuple #[RV.val r, .int .i64 0, .int .i64 0]) /\ TreeOf w' w'.heap.size v r /\ Below w.heap.size w w'
def ReadRetS (w : World) (v : JV) (e : Ending) (w' : World) : Prop := ∃ r : RV, e = .returned (.tuple #[RV.val r, .int .i64 0, .int .i64 0]) /\ TreeS w' (fun k => w.heap.size <= k /\ k < w'.heap.size) v r /\ Below w.heap.size w w'
theorem readF_parts {s : ByteArray} {v : JV} (h : readF s = some v) : ∃ t ts q, Toks s 0 (t :: ts) /\ parV ((t :: ts).length + 1) 1 0 (t :: ts) = some (v, q, []) := by
 unfold readF at h
 split at h
 ·cases h
 ·rename_i l hl
  split at h
  ·rename_i v' q hv
   cases h
   cases l with
   | nil => simp [parV] at hv
   | cons t ts => exact ⟨t, ts, q, toksF_ok s _ _ _ hl, hv⟩
  ·cases h
theorem readS_any (w : World) (s : ByteArray) (v : JV) (hs : s.size <= 65536) (hv : readF s = some v) : Calls Tryz.prog 27 #[.string s] w (ReadRetS w v) := by
 obtain ⟨t, ts, q, htk, hpv⟩ := readF_parts hv
 have HTK : Hid (∀ W, Calls Tryz.prog 48 #[.string s] W (TksR W (t :: ts))) := fun W => tokens_any W s (t :: ts) hs htk
 have HNX : Hid (∀ W g en, RdS W g (t :: ts) en 0 -> Calls Tryz.prog 51 #[.pointer (some ⟨g, 0, none⟩)] W (NxtRet W g t ts en 0)) := fun W g en hr => next_any W g en 0 t ts hr
 have HVA : Hid (∀ W g en, RdS W g ts en 0 -> Calls Tryz.prog 50 #[.pointer (some ⟨g, 0, none⟩), t.val, .int .i64 1] W (ValR W g v [] en q)) := fun W g en hr => value_all _ _ (Nat.le_refl _) 1 0 t ts v q [] hpv W g en hr
 clear hv htk hpv
 have hZ0 : VAt (((w.alloc (.cells #[.int .i64 0, .int .i64 0, .string ⟨#[]⟩, .slice none 0 0, .slice none 0 0] 25)).alloc (.cells #[.int .i64 0] 3)).alloc (.cells #[.int .i64 0] 28)) w.heap.size RV.zero := heap_alloc_lt (by simp; omega) (heap_alloc_lt (by simp) (heap_alloc_at rfl))
 have hN1 : NumBk (((w.alloc (.cells #[.int .i64 0, .int .i64 0, .string ⟨#[]⟩, .slice none 0 0, .slice none 0 0] 25)).alloc (.cells #[.int .i64 0] 3)).alloc (.cells #[.int .i64 0] 28)) 3 (w.heap.size + 1) 0 := heap_alloc_lt (by simp) (heap_alloc_at (by simp))
 have hN2 : NumBk (((w.alloc (.cells #[.int .i64 0, .int .i64 0, .string ⟨#[]⟩, .slice none 0 0, .slice none 0 0] 25)).alloc (.cells #[.int .i64 0] 3)).alloc (.cells #[.int .i64 0] 28)) 28 (w.heap.size + 1 + 1) 0 := heap_alloc_at (by simp)
 have hB0 : Below w.heap.size w (((w.alloc (.cells #[.int .i64 0, .int .i64 0, .string ⟨#[]⟩, .slice none 0 0, .slice none 0 0] 25)).alloc (.cells #[.int .i64 0] 3)).alloc (.cells #[.int .i64 0] 28)) := (((Below.refl _ _).alloc (Nat.le_refl _) _).alloc (by simp) _).alloc (by simp; omega) _
 have hs0 : (((w.alloc (.cells #[.int .i64 0, .int .i64 0, .string ⟨#[]⟩, .slice none 0 0, .slice none 0 0] 25)).alloc (.cells #[.int .i64 0] 3)).alloc (.cells #[.int .i64 0] 28)).heap.size = w.heap.size + 3 := by simp
 have hmf : ∀ (fn : Fn) (first cap : Array Value) (w : World), (Instr.makeFunc fn first cap).run Tryz.prog w = .ok (.func fn first cap) w := fun _ _ _ _ => rfl
 go_enter_defers Tryz.func27, Tryz.ntmps27
 go_upto_region 1 with fail
 obtain ⟨W0, hW0⟩ : ∃ W, ((w.alloc (.cells #[.int .i64 0, .int .i64 0, .string ⟨#[]⟩, .slice none 0 0, .slice none 0 0] 25)).alloc (.cells #[.int .i64 0] 3)).alloc (.cells #[.int .i64 0] 28) = W := ⟨_, rfl⟩
 rw [hW0] at hZ0 hN1 hN2 hB0 hs0
 try rw [hW0]
 clear hW0
 have HZ0 := Lib.hid hZ0
 have HN1 := Lib.hid hN1
 have HN2 := Lib.hid hN2
 have HB0 := Lib.hid hB0
 have HS0 := Lib.hid hs0
 clear hZ0 hN1 hN2 hB0 hs0
 go_upto_region 2 with (go_at_call 48; refine (HTK.out _).mono ?_; rintro e w1 ⟨p1, n1, c1, rfl, hr1, hb1⟩; (have hN11 := HN1.out.keep (hb1.block _ HN1.out.lt)); (have hN21 := HN2.out.keep (hb1.block _ HN2.out.lt)); (have x1 := hN11.cell); (have x2 := hN21.cell); (have y1 := hN11.frozen); (have y2 := hN21.frozen))
 have hg1 := grownBy_set w1 (w.heap.size + 1) 0 (.int .i64 0)
 have hg2 := grownBy_set (w1.setCell ⟨w.heap.size + 1, 0, none⟩ (.int .i64 0)) (w.heap.size + 1 + 1) 0 (.int .i64 0)
 have hN12 := (hN11.set 0).keep (hg2.block _ (hN11.set 0).lt (by simp))
 have hN22 := (hN21.keep (hg1.block _ hN21.lt (by simp))).set 0
 have hZ1 := HZ0.out.keep (hb1.block _ HZ0.out.lt)
 have hZ2 := (hZ1.keep (hg1.block _ hZ1.lt (by simp)))
 have hZ3 := hZ2.keep (hg2.block _ hZ2.lt (by simp; omega))
 have hb2 : Below w.heap.size w ((w1.setCell ⟨w.heap.size + 1, 0, none⟩ (.int .i64 0)).setCell ⟨w.heap.size + 1 + 1, 0, none⟩ (.int .i64 0)) :=
  ((HB0.out.trans (hb1.mono HB0.out.size)).grown hg1 (by have := HS0.out; have := hb1.size; omega) (fun k e => by cases e; omega)).grown hg2 (by have := HS0.out; have := hb1.size; simp; omega) (fun k e => by cases e; omega)
 obtain ⟨w2, hw2⟩ : ∃ W, (w1.setCell ⟨w.heap.size + 1, 0, none⟩ (.int .i64 0)).setCell ⟨w.heap.size + 1 + 1, 0, none⟩ (.int .i64 0) = W := ⟨_, rfl⟩
 have hO2 := hr1.same (w' := (w1.setCell ⟨w.heap.size + 1, 0, none⟩ (.int .i64 0)).setCell ⟨w.heap.size + 1 + 1, 0, none⟩ (.int .i64 0)) (fun k e => by
  have h3 := hr1.lt k e
  have h4 := HS0.out
  exact (hg2.block k (by simp; omega) (fun e2 => by cases e2; omega)).trans (hg1.block k h3.2 (fun e2 => by cases e2; omega)))
 rw [hw2] at hN12 hN22 hZ3 hb2 hO2
 try rw [hw2]
 have HO2 := Lib.hid hO2
 have HN3 := Lib.hid hN12
 have HN4 := Lib.hid hN22
 have HZ3 := Lib.hid hZ3
 have HB2 := Lib.hid hb2
 have a2 := hN22.cell
 clear hw2 hg1 hg2 hN11 hN21 hZ1 hZ2 x1 x2 y1 y2 hr1 hb1 hN12 hN22 hZ3 hb2 hO2
 go_upto_region 6 with fail
 have hR5 : RdS (w2.alloc (.cells #[.slice p1 n1 c1, .int .i64 s.size, .int .i64 0] 94)) w2.heap.size (t :: ts) s.size 0 := ⟨p1, n1, c1, heap_alloc_at rfl, (HO2.out.rd codecTok).below ((Below.refl _ _).alloc (Nat.le_refl _) _) (Nat.le_refl _)⟩
 have hZ5 := HZ3.out.keep (W' := w2.alloc (.cells #[.slice p1 n1 c1, .int .i64 s.size, .int .i64 0] 94)) (Below.heap_alloc _ _ _ HZ3.out.lt)
 have hN5 := HN3.out.keep (W' := w2.alloc (.cells #[.slice p1 n1 c1, .int .i64 s.size, .int .i64 0] 94)) (Below.heap_alloc _ _ _ HN3.out.lt)
 have hN6 := HN4.out.keep (W' := w2.alloc (.cells #[.slice p1 n1 c1, .int .i64 s.size, .int .i64 0] 94)) (Below.heap_alloc _ _ _ HN4.out.lt)
 have hB5 := HB2.out.alloc HB2.out.size (.cells #[.slice p1 n1 c1, .int .i64 s.size, .int .i64 0] 94)
 have hlt5 : w.heap.size + 2 < w2.heap.size := HN4.out.lt
 obtain ⟨g, hg⟩ : ∃ g, w2.heap.size = g := ⟨_, rfl⟩
 obtain ⟨w3, hw3⟩ : ∃ W, w2.alloc (.cells #[.slice p1 n1 c1, .int .i64 s.size, .int .i64 0] 94) = W := ⟨_, rfl⟩
 rw [hw3, hg] at hR5
 rw [hw3] at hZ5 hN5 hN6 hB5
 rw [hg] at hlt5
 try rw [hw3]
 try rw [hg]
 have HR5 := Lib.hid hR5
 have HZ5 := Lib.hid hZ5
 have HN5 := Lib.hid hN5
 have HN6 := Lib.hid hN6
 have HB5 := Lib.hid hB5
 clear hw3 hg hR5 hZ5 hN5 hN6 hB5 HO2 HN3 HN4 HZ3 HB2 a2
 obtain ⟨tk, tn, tS, tp⟩ := t
 dsimp only [Tok.val, NxtRet] at *
 go_upto_region 7 with (first
  | (go_at_call 51; refine (HNX.out _ _ _ HR5.out).mono ?_; rintro e w4 ⟨rfl, hr4, hg4⟩)
  | (go_at_call 50; refine (HVA.out _ _ _ hr4).mono ?_; rintro e w5 ⟨rv, rfl, ht5, hr5, hg5⟩; obtain ⟨vk, vn, vs, vpl, vnl, vcl, vpm, vnm, vcm⟩ := rv; (have hg45 := hg4.trans hg5); (have hZ6 := HZ5.out.keep (hg45.block _ HZ5.out.lt (by simp; omega))); (obtain ⟨z0, z1, z2, z3, z4⟩ := hZ6.cells5); (have y0 := hZ6.frozen 0); (have y1 := hZ6.frozen 1); (have y2 := hZ6.frozen 2); (have y3 := hZ6.frozen 3); (have y4 := hZ6.frozen 4)))
 have hv6 := hZ6.stored ⟨vk, vn, vs, vpl, vnl, vcl, vpm, vnm, vcm⟩
 have hg6 := grownBy_set5 w5 w.heap.size ⟨vk, vn, vs, vpl, vnl, vcl, vpm, vnm, vcm⟩
 have hlt4 := HN6.out.lt
 have hN7 := ((HN5.out.keep (hg45.block _ HN5.out.lt (by simp; omega)))).keep (hg6.block (w.heap.size + 1) (Nat.lt_of_lt_of_le HN5.out.lt hg45.size) (by simp))
 have hN8 := ((HN6.out.keep (hg45.block _ HN6.out.lt (by simp; omega)))).keep (hg6.block (w.heap.size + 1 + 1) (Nat.lt_of_lt_of_le HN6.out.lt hg45.size) (by simp; omega))
 have hr6 : ∃ p c, (((((w5.setCell ⟨w.heap.size, 0, none⟩ (.int .i64 (⟨vk, vn, vs, vpl, vnl, vcl, vpm, vnm, vcm⟩ : RV).k)).setCell ⟨w.heap.size, 1, none⟩ (.int .i64 (⟨vk, vn, vs, vpl, vnl, vcl, vpm, vnm, vcm⟩ : RV).n)).setCell ⟨w.heap.size, 2, none⟩ (.string (⟨vk, vn, vs, vpl, vnl, vcl, vpm, vnm, vcm⟩ : RV).s)).setCell ⟨w.heap.size, 3, none⟩ (.slice (⟨vk, vn, vs, vpl, vnl, vcl, vpm, vnm, vcm⟩ : RV).pl (⟨vk, vn, vs, vpl, vnl, vcl, vpm, vnm, vcm⟩ : RV).nl (⟨vk, vn, vs, vpl, vnl, vcl, vpm, vnm, vcm⟩ : RV).cl)).setCell ⟨w.heap.size, 4, none⟩ (.slice (⟨vk, vn, vs, vpl, vnl, vcl, vpm, vnm, vcm⟩ : RV).pm (⟨vk, vn, vs, vpl, vnl, vcl, vpm, vnm, vcm⟩ : RV).nm (⟨vk, vn, vs, vpl, vnl, vcl, vpm, vnm, vcm⟩ : RV).cm)).cell? ⟨g, 0, none⟩ = some (.slice p 0 c) := by
  obtain ⟨p, n, c, h1, h2⟩ := hr5.ex
  have hn := rd_nlen h2
  have h3 := h1.keep (hg6.block g h1.lt (by simp; omega))
  have h4 := h3.cell 0 rfl
  rw [hn] at h4
  exact ⟨p, c, h4⟩
 have ht6 := ht5.same (fun k hk => hg6.block k hk.2 (fun e => by cases e; have := hk.1; have := hg4.size; omega))
 have hb6 : Below w.heap.size w (((((w5.setCell ⟨w.heap.size, 0, none⟩ (.int .i64 (⟨vk, vn, vs, vpl, vnl, vcl, vpm, vnm, vcm⟩ : RV).k)).setCell ⟨w.heap.size, 1, none⟩ (.int .i64 (⟨vk, vn, vs, vpl, vnl, vcl, vpm, vnm, vcm⟩ : RV).n)).setCell ⟨w.heap.size, 2, none⟩ (.string (⟨vk, vn, vs, vpl, vnl, vcl, vpm, vnm, vcm⟩ : RV).s)).setCell ⟨w.heap.size, 3, none⟩ (.slice (⟨vk, vn, vs, vpl, vnl, vcl, vpm, vnm, vcm⟩ : RV).pl (⟨vk, vn, vs, vpl, vnl, vcl, vpm, vnm, vcm⟩ : RV).nl (⟨vk, vn, vs, vpl, vnl, vcl, vpm, vnm, vcm⟩ : RV).cl)).setCell ⟨w.heap.size, 4, none⟩ (.slice (⟨vk, vn, vs, vpl, vnl, vcl, vpm, vnm, vcm⟩ : RV).pm (⟨vk, vn, vs, vpl, vnl, vcl, vpm, vnm, vcm⟩ : RV).nm (⟨vk, vn, vs, vpl, vnl, vcl, vpm, vnm, vcm⟩ : RV).cm)) := (HB5.out.grown hg45 (by omega) (fun k e => by cases e; omega)).grown hg6 (by have := hg45.size; omega) (fun k e => by cases e; omega)
 have hz6 : (((((w5.setCell ⟨w.heap.size, 0, none⟩ (.int .i64 (⟨vk, vn, vs, vpl, vnl, vcl, vpm, vnm, vcm⟩ : RV).k)).setCell ⟨w.heap.size, 1, none⟩ (.int .i64 (⟨vk, vn, vs, vpl, vnl, vcl, vpm, vnm, vcm⟩ : RV).n)).setCell ⟨w.heap.size, 2, none⟩ (.string (⟨vk, vn, vs, vpl, vnl, vcl, vpm, vnm, vcm⟩ : RV).s)).setCell ⟨w.heap.size, 3, none⟩ (.slice (⟨vk, vn, vs, vpl, vnl, vcl, vpm, vnm, vcm⟩ : RV).pl (⟨vk, vn, vs, vpl, vnl, vcl, vpm, vnm, vcm⟩ : RV).nl (⟨vk, vn, vs, vpl, vnl, vcl, vpm, vnm, vcm⟩ : RV).cl)).setCell ⟨w.heap.size, 4, none⟩ (.slice (⟨vk, vn, vs, vpl, vnl, vcl, vpm, vnm, vcm⟩ : RV).pm (⟨vk, vn, vs, vpl, vnl, vcl, vpm, vnm, vcm⟩ : RV).nm (⟨vk, vn, vs, vpl, vnl, vcl, vpm, vnm, vcm⟩ : RV).cm)).heap.size = w5.heap.size := by simp
 dsimp only at hv6 hr6 hb6 hN7 hN8 ht6 hz6
 obtain ⟨w6, hw6⟩ : ∃ W, (((((w5.setCell ⟨w.heap.size, 0, none⟩ (.int .i64 (⟨vk, vn, vs, vpl, vnl, vcl, vpm, vnm, vcm⟩ : RV).k)).setCell ⟨w.heap.size, 1, none⟩ (.int .i64 (⟨vk, vn, vs, vpl, vnl, vcl, vpm, vnm, vcm⟩ : RV).n)).setCell ⟨w.heap.size, 2, none⟩ (.string (⟨vk, vn, vs, vpl, vnl, vcl, vpm, vnm, vcm⟩ : RV).s)).setCell ⟨w.heap.size, 3, none⟩ (.slice (⟨vk, vn, vs, vpl, vnl, vcl, vpm, vnm, vcm⟩ : RV).pl (⟨vk, vn, vs, vpl, vnl, vcl, vpm, vnm, vcm⟩ : RV).nl (⟨vk, vn, vs, vpl, vnl, vcl, vpm, vnm, vcm⟩ : RV).cl)).setCell ⟨w.heap.size, 4, none⟩ (.slice (⟨vk, vn, vs, vpl, vnl, vcl, vpm, vnm, vcm⟩ : RV).pm (⟨vk, vn, vs, vpl, vnl, vcl, vpm, vnm, vcm⟩ : RV).nm (⟨vk, vn, vs, vpl, vnl, vcl, vpm, vnm, vcm⟩ : RV).cm)) = W := ⟨_, rfl⟩
 dsimp only at hw6
 rw [hw6] at hv6 hr6 hb6 hN7 hN8 ht6 hz6
 try rw [hw6]
 clear z0 z1 z2 z3 z4 y0 y1 y2 y3 y4 hw6
 obtain ⟨p6, c6, c0⟩ := hr6
 obtain ⟨v0, v1, v2, v3, v4⟩ := hv6.cells5
 have y0 := hv6.frozen 0
 have y1 := hv6.frozen 1
 have y2 := hv6.frozen 2
 have y3 := hv6.frozen 3
 have y4 := hv6.frozen 4
 have x1 := hN7.cell
 have x2 := hN8.cell
 have y11 := hN7.frozen
 have y12 := hN8.frozen
 dsimp only at v0 v1 v2 v3 v4
 have hg7 := grownBy_set5 w6 w.heap.size (⟨vk, vn, vs, vpl, vnl, vcl, vpm, vnm, vcm⟩ : RV)
 have hg8 := grownBy_set (((((w6.setCell ⟨w.heap.size, 0, none⟩ (.int .i64 (⟨vk, vn, vs, vpl, vnl, vcl, vpm, vnm, vcm⟩ : RV).k)).setCell ⟨w.heap.size, 1, none⟩ (.int .i64 (⟨vk, vn, vs, vpl, vnl, vcl, vpm, vnm, vcm⟩ : RV).n)).setCell ⟨w.heap.size, 2, none⟩ (.string (⟨vk, vn, vs, vpl, vnl, vcl, vpm, vnm, vcm⟩ : RV).s)).setCell ⟨w.heap.size, 3, none⟩ (.slice (⟨vk, vn, vs, vpl, vnl, vcl, vpm, vnm, vcm⟩ : RV).pl (⟨vk, vn, vs, vpl, vnl, vcl, vpm, vnm, vcm⟩ : RV).nl (⟨vk, vn, vs, vpl, vnl, vcl, vpm, vnm, vcm⟩ : RV).cl)).setCell ⟨w.heap.size, 4, none⟩ (.slice (⟨vk, vn, vs, vpl, vnl, vcl, vpm, vnm, vcm⟩ : RV).pm (⟨vk, vn, vs, vpl, vnl, vcl, vpm, vnm, vcm⟩ : RV).nm (⟨vk, vn, vs, vpl, vnl, vcl, vpm, vnm, vcm⟩ : RV).cm)) (w.heap.size + 1) 0 (.int .i64 0)
 have hg9 := grownBy_set ((((((w6.setCell ⟨w.heap.size, 0, none⟩ (.int .i64 (⟨vk, vn, vs, vpl, vnl, vcl, vpm, vnm, vcm⟩ : RV).k)).setCell ⟨w.heap.size, 1, none⟩ (.int .i64 (⟨vk, vn, vs, vpl, vnl, vcl, vpm, vnm, vcm⟩ : RV).n)).setCell ⟨w.heap.size, 2, none⟩ (.string (⟨vk, vn, vs, vpl, vnl, vcl, vpm, vnm, vcm⟩ : RV).s)).setCell ⟨w.heap.size, 3, none⟩ (.slice (⟨vk, vn, vs, vpl, vnl, vcl, vpm, vnm, vcm⟩ : RV).pl (⟨vk, vn, vs, vpl, vnl, vcl, vpm, vnm, vcm⟩ : RV).nl (⟨vk, vn, vs, vpl, vnl, vcl, vpm, vnm, vcm⟩ : RV).cl)).setCell ⟨w.heap.size, 4, none⟩ (.slice (⟨vk, vn, vs, vpl, vnl, vcl, vpm, vnm, vcm⟩ : RV).pm (⟨vk, vn, vs, vpl, vnl, vcl, vpm, vnm, vcm⟩ : RV).nm (⟨vk, vn, vs, vpl, vnl, vcl, vpm, vnm, vcm⟩ : RV).cm)).setCell ⟨w.heap.size + 1, 0, none⟩ (.int .i64 0)) (w.heap.size + 1 + 1) 0 (.int .i64 0)
 have hv7 := ((hv6.stored (⟨vk, vn, vs, vpl, vnl, vcl, vpm, vnm, vcm⟩ : RV)).keep (hg8.block _ (hv6.stored (⟨vk, vn, vs, vpl, vnl, vcl, vpm, vnm, vcm⟩ : RV)).lt (by simp)))
 have hv9 := hv7.keep (hg9.block _ hv7.lt (by simp; omega))
 have hN9 := (((hN7.keep (hg7.block _ hN7.lt (by simp))).set 0))
 have hN9' := hN9.keep (hg9.block _ hN9.lt (by simp))
 have hN10 := ((hN8.keep (hg7.block _ hN8.lt (by simp; omega))).keep (hg8.block _ (hN8.keep (hg7.block _ hN8.lt (by simp; omega))).lt (by simp))).set 0
 have hb9 : Below w.heap.size w (((((((w6.setCell ⟨w.heap.size, 0, none⟩ (.int .i64 (⟨vk, vn, vs, vpl, vnl, vcl, vpm, vnm, vcm⟩ : RV).k)).setCell ⟨w.heap.size, 1, none⟩ (.int .i64 (⟨vk, vn, vs, vpl, vnl, vcl, vpm, vnm, vcm⟩ : RV).n)).setCell ⟨w.heap.size, 2, none⟩ (.string (⟨vk, vn, vs, vpl, vnl, vcl, vpm, vnm, vcm⟩ : RV).s)).setCell ⟨w.heap.size, 3, none⟩ (.slice (⟨vk, vn, vs, vpl, vnl, vcl, vpm, vnm, vcm⟩ : RV).pl (⟨vk, vn, vs, vpl, vnl, vcl, vpm, vnm, vcm⟩ : RV).nl (⟨vk, vn, vs, vpl, vnl, vcl, vpm, vnm, vcm⟩ : RV).cl)).setCell ⟨w.heap.size, 4, none⟩ (.slice (⟨vk, vn, vs, vpl, vnl, vcl, vpm, vnm, vcm⟩ : RV).pm (⟨vk, vn, vs, vpl, vnl, vcl, vpm, vnm, vcm⟩ : RV).nm (⟨vk, vn, vs, vpl, vnl, vcl, vpm, vnm, vcm⟩ : RV).cm)).setCell ⟨w.heap.size + 1, 0, none⟩ (.int .i64 0)).setCell ⟨w.heap.size + 1 + 1, 0, none⟩ (.int .i64 0)) := ((hb6.grown hg7 (by have := hb6.size; omega) (fun k e => by cases e; exact Nat.le_refl _)).grown hg8 (by have := hb6.size; simp; omega) (fun k e => by cases e; omega)).grown hg9 (by have := hb6.size; simp; omega) (fun k e => by cases e; omega)
 have hsz : w6.heap.size <= (((((((w6.setCell ⟨w.heap.size, 0, none⟩ (.int .i64 (⟨vk, vn, vs, vpl, vnl, vcl, vpm, vnm, vcm⟩ : RV).k)).setCell ⟨w.heap.size, 1, none⟩ (.int .i64 (⟨vk, vn, vs, vpl, vnl, vcl, vpm, vnm, vcm⟩ : RV).n)).setCell ⟨w.heap.size, 2, none⟩ (.string (⟨vk, vn, vs, vpl, vnl, vcl, vpm, vnm, vcm⟩ : RV).s)).setCell ⟨w.heap.size, 3, none⟩ (.slice (⟨vk, vn, vs, vpl, vnl, vcl, vpm, vnm, vcm⟩ : RV).pl (⟨vk, vn, vs, vpl, vnl, vcl, vpm, vnm, vcm⟩ : RV).nl (⟨vk, vn, vs, vpl, vnl, vcl, vpm, vnm, vcm⟩ : RV).cl)).setCell ⟨w.heap.size, 4, none⟩ (.slice (⟨vk, vn, vs, vpl, vnl, vcl, vpm, vnm, vcm⟩ : RV).pm (⟨vk, vn, vs, vpl, vnl, vcl, vpm, vnm, vcm⟩ : RV).nm (⟨vk, vn, vs, vpl, vnl, vcl, vpm, vnm, vcm⟩ : RV).cm)).setCell ⟨w.heap.size + 1, 0, none⟩ (.int .i64 0)).setCell ⟨w.heap.size + 1 + 1, 0, none⟩ (.int .i64 0)).heap.size := by simp
 have hgn := hg4.size
 have ht9 := ht6.same (w' := (((((((w6.setCell ⟨w.heap.size, 0, none⟩ (.int .i64 (⟨vk, vn, vs, vpl, vnl, vcl, vpm, vnm, vcm⟩ : RV).k)).setCell ⟨w.heap.size, 1, none⟩ (.int .i64 (⟨vk, vn, vs, vpl, vnl, vcl, vpm, vnm, vcm⟩ : RV).n)).setCell ⟨w.heap.size, 2, none⟩ (.string (⟨vk, vn, vs, vpl, vnl, vcl, vpm, vnm, vcm⟩ : RV).s)).setCell ⟨w.heap.size, 3, none⟩ (.slice (⟨vk, vn, vs, vpl, vnl, vcl, vpm, vnm, vcm⟩ : RV).pl (⟨vk, vn, vs, vpl, vnl, vcl, vpm, vnm, vcm⟩ : RV).nl (⟨vk, vn, vs, vpl, vnl, vcl, vpm, vnm, vcm⟩ : RV).cl)).setCell ⟨w.heap.size, 4, none⟩ (.slice (⟨vk, vn, vs, vpl, vnl, vcl, vpm, vnm, vcm⟩ : RV).pm (⟨vk, vn, vs, vpl, vnl, vcl, vpm, vnm, vcm⟩ : RV).nm (⟨vk, vn, vs, vpl, vnl, vcl, vpm, vnm, vcm⟩ : RV).cm)).setCell ⟨w.heap.size + 1, 0, none⟩ (.int .i64 0)).setCell ⟨w.heap.size + 1 + 1, 0, none⟩ (.int .i64 0))) (fun k hk => by
  have := hk.1
  have := hk.2
  exact ((hg9.block k (by simp; omega) (fun e => by cases e; omega)).trans (hg8.block k (by simp; omega) (fun e => by cases e; omega))).trans (hg7.block k (by omega) (fun e => by cases e; omega)))
 have hto : TreeOf (((((((w6.setCell ⟨w.heap.size, 0, none⟩ (.int .i64 (⟨vk, vn, vs, vpl, vnl, vcl, vpm, vnm, vcm⟩ : RV).k)).setCell ⟨w.heap.size, 1, none⟩ (.int .i64 (⟨vk, vn, vs, vpl, vnl, vcl, vpm, vnm, vcm⟩ : RV).n)).setCell ⟨w.heap.size, 2, none⟩ (.string (⟨vk, vn, vs, vpl, vnl, vcl, vpm, vnm, vcm⟩ : RV).s)).setCell ⟨w.heap.size, 3, none⟩ (.slice (⟨vk, vn, vs, vpl, vnl, vcl, vpm, vnm, vcm⟩ : RV).pl (⟨vk, vn, vs, vpl, vnl, vcl, vpm, vnm, vcm⟩ : RV).nl (⟨vk, vn, vs, vpl, vnl, vcl, vpm, vnm, vcm⟩ : RV).cl)).setCell ⟨w.heap.size, 4, none⟩ (.slice (⟨vk, vn, vs, vpl, vnl, vcl, vpm, vnm, vcm⟩ : RV).pm (⟨vk, vn, vs, vpl, vnl, vcl, vpm, vnm, vcm⟩ : RV).nm (⟨vk, vn, vs, vpl, vnl, vcl, vpm, vnm, vcm⟩ : RV).cm)).setCell ⟨w.heap.size + 1, 0, none⟩ (.int .i64 0)).setCell ⟨w.heap.size + 1 + 1, 0, none⟩ (.int .i64 0)) (((((((w6.setCell ⟨w.heap.size, 0, none⟩ (.int .i64 (⟨vk, vn, vs, vpl, vnl, vcl, vpm, vnm, vcm⟩ : RV).k)).setCell ⟨w.heap.size, 1, none⟩ (.int .i64 (⟨vk, vn, vs, vpl, vnl, vcl, vpm, vnm, vcm⟩ : RV).n)).setCell ⟨w.heap.size, 2, none⟩ (.string (⟨vk, vn, vs, vpl, vnl, vcl, vpm, vnm, vcm⟩ : RV).s)).setCell ⟨w.heap.size, 3, none⟩ (.slice (⟨vk, vn, vs, vpl, vnl, vcl, vpm, vnm, vcm⟩ : RV).pl (⟨vk, vn, vs, vpl, vnl, vcl, vpm, vnm, vcm⟩ : RV).nl (⟨vk, vn, vs, vpl, vnl, vcl, vpm, vnm, vcm⟩ : RV).cl)).setCell ⟨w.heap.size, 4, none⟩ (.slice (⟨vk, vn, vs, vpl, vnl, vcl, vpm, vnm, vcm⟩ : RV).pm (⟨vk, vn, vs, vpl, vnl, vcl, vpm, vnm, vcm⟩ : RV).nm (⟨vk, vn, vs, vpl, vnl, vcl, vpm, vnm, vcm⟩ : RV).cm)).setCell ⟨w.heap.size + 1, 0, none⟩ (.int .i64 0)).setCell ⟨w.heap.size + 1 + 1, 0, none⟩ (.int .i64 0)).heap.size v (⟨vk, vn, vs, vpl, vnl, vcl, vpm, vnm, vcm⟩ : RV) := ht9.tree (fun k hk => Nat.lt_of_lt_of_le (by have := hk.2; omega) hsz)
 have hts : TreeS (((((((w6.setCell ⟨w.heap.size, 0, none⟩ (.int .i64 (⟨vk, vn, vs, vpl, vnl, vcl, vpm, vnm, vcm⟩ : RV).k)).setCell ⟨w.heap.size, 1, none⟩ (.int .i64 (⟨vk, vn, vs, vpl, vnl, vcl, vpm, vnm, vcm⟩ : RV).n)).setCell ⟨w.heap.size, 2, none⟩ (.string (⟨vk, vn, vs, vpl, vnl, vcl, vpm, vnm, vcm⟩ : RV).s)).setCell ⟨w.heap.size, 3, none⟩ (.slice (⟨vk, vn, vs, vpl, vnl, vcl, vpm, vnm, vcm⟩ : RV).pl (⟨vk, vn, vs, vpl, vnl, vcl, vpm, vnm, vcm⟩ : RV).nl (⟨vk, vn, vs, vpl, vnl, vcl, vpm, vnm, vcm⟩ : RV).cl)).setCell ⟨w.heap.size, 4, none⟩ (.slice (⟨vk, vn, vs, vpl, vnl, vcl, vpm, vnm, vcm⟩ : RV).pm (⟨vk, vn, vs, vpl, vnl, vcl, vpm, vnm, vcm⟩ : RV).nm (⟨vk, vn, vs, vpl, vnl, vcl, vpm, vnm, vcm⟩ : RV).cm)).setCell ⟨w.heap.size + 1, 0, none⟩ (.int .i64 0)).setCell ⟨w.heap.size + 1 + 1, 0, none⟩ (.int .i64 0)) (fun k => w.heap.size <= k /\ k < (((((((w6.setCell ⟨w.heap.size, 0, none⟩ (.int .i64 (⟨vk, vn, vs, vpl, vnl, vcl, vpm, vnm, vcm⟩ : RV).k)).setCell ⟨w.heap.size, 1, none⟩ (.int .i64 (⟨vk, vn, vs, vpl, vnl, vcl, vpm, vnm, vcm⟩ : RV).n)).setCell ⟨w.heap.size, 2, none⟩ (.string (⟨vk, vn, vs, vpl, vnl, vcl, vpm, vnm, vcm⟩ : RV).s)).setCell ⟨w.heap.size, 3, none⟩ (.slice (⟨vk, vn, vs, vpl, vnl, vcl, vpm, vnm, vcm⟩ : RV).pl (⟨vk, vn, vs, vpl, vnl, vcl, vpm, vnm, vcm⟩ : RV).nl (⟨vk, vn, vs, vpl, vnl, vcl, vpm, vnm, vcm⟩ : RV).cl)).setCell ⟨w.heap.size, 4, none⟩ (.slice (⟨vk, vn, vs, vpl, vnl, vcl, vpm, vnm, vcm⟩ : RV).pm (⟨vk, vn, vs, vpl, vnl, vcl, vpm, vnm, vcm⟩ : RV).nm (⟨vk, vn, vs, vpl, vnl, vcl, vpm, vnm, vcm⟩ : RV).cm)).setCell ⟨w.heap.size + 1, 0, none⟩ (.int .i64 0)).setCell ⟨w.heap.size + 1 + 1, 0, none⟩ (.int .i64 0)).heap.size) v (⟨vk, vn, vs, vpl, vnl, vcl, vpm, vnm, vcm⟩ : RV) := ht9.mono (fun k hk => ⟨by have := hk.1; omega, Nat.lt_of_lt_of_le (by have := hk.2; omega) hsz⟩)
 have HTO := Lib.hid hts
 have HB9 := Lib.hid hb9
 have HV9 := Lib.hid hv9
 have HN9 := Lib.hid hN9'
 have HN10 := Lib.hid hN10
 dsimp only at HTO HB9 HV9 HN9 HN10
 clear hto hts hb9 hv9 hN9 hN9' hN10 hg7 hg8 hg9 hv7 hsz hgn ht9 ht6 hb6 hv6 hN7 hN8 hg4 hg5 hg45 hg6 ht5 hr5 hr4
 go_wp2_with fail
 refine leaves_cons (f := 49) (args := #[.pointer (some ⟨w.heap.size, 0, none⟩), .pointer (some ⟨w.heap.size + 1, 0, none⟩), .pointer (some ⟨w.heap.size + 1 + 1, 0, none⟩)]) (by simp) (by simp [go_sem]) ?_
 refine (readCatch_idle _ _ _ _).mono ?_
 rintro e u' w'' ⟨rfl, rfl, rfl⟩
 obtain ⟨W9, hW9⟩ : ∃ W, ((((((w6.setCell ⟨w.heap.size, 0, none⟩ (.int .i64 vk)).setCell ⟨w.heap.size, 1, none⟩ (.int .i64 vn)).setCell ⟨w.heap.size, 2, none⟩ (.string vs)).setCell ⟨w.heap.size, 3, none⟩ (.slice vpl vnl vcl)).setCell ⟨w.heap.size, 4, none⟩ (.slice vpm vnm vcm)).setCell ⟨w.heap.size + 1, 0, none⟩ (.int .i64 0)).setCell ⟨w.heap.size + 1 + 1, 0, none⟩ (.int .i64 0) = W := ⟨_, rfl⟩
 rw [hW9] at HTO HB9 HV9 HN9 HN10
 rw [hW9]
 clear hW9 v0 v1 v2 v3 v4 y0 y1 y2 y3 y4 x1 x2 y11 y12 c0
 obtain ⟨u0, u1, u2, u3, u4⟩ := HV9.out.cells5
 dsimp only at u0 u1 u2 u3 u4
 have x1 := HN9.out.cell
 have x2 := HN10.out.cell
 have HR : ReadRetS w v (.returned (.tuple #[RV.val (⟨vk, vn, vs, vpl, vnl, vcl, vpm, vnm, vcm⟩ : RV), .int .i64 0, .int .i64 0])) W9 := ⟨_, rfl, HTO.out, HB9.out⟩
 simp only [RV.val] at HR
 simp [Leaves, settle, results, Tryz.results27, go_sem, u0, u1, u2, u3, u4, x1, x2]
 exact HR
theorem read_any (w : World) (s : ByteArray) (v : JV) (hs : s.size <= 65536) (hv : readF s = some v) : Calls Tryz.prog 27 #[.string s] w (ReadRet w v) :=
 (readS_any w s v hs hv).mono (fun e w' h => by
  obtain ⟨r, h1, h2, h3⟩ := h
  exact ⟨r, h1, h2.tree (fun k hk => hk.2), h3⟩)
end
section
open Go.RowKit Go.OpenShut
def KB (B : Nat) (W w : World) : Prop := Below B W w /\ ∀ b o, b < B -> w.cell? ⟨b, o, none⟩ = W.cell? ⟨b, o, none⟩
theorem KB.mk {B : Nat} {W w : World} (h : Below B W w) : KB B W w := ⟨h, fun b o hb => h.cell (p := ⟨b, o, none⟩) hb⟩
theorem KB.fin {b B : Nat} {w W w' : World} (hk : KB B W w') (h : Below b w W) (hb : b <= B) : Below b w w' := h.trans (hk.1.mono hb)
theorem KB.refl (W : World) : KB W.heap.size W W := KB.mk (Below.refl _ _)
theorem KB.step {W w w' : World} (hk : KB W.heap.size W w) (h : Below w.heap.size w w') : KB W.heap.size W w' := KB.mk (hk.1.trans (h.mono hk.1.size))
theorem KB.drew (W : World) : KB W.heap.size W W.drew := KB.mk (Below.refl _ _).drew
abbrev RV.obj (r : RV) : Obj := .cells #[.int .i64 r.k, .int .i64 r.n, .string r.s, .slice r.pl r.nl r.cl, .slice r.pm r.nm r.cm] 25
structure Ctx (b : Nat) (w0 W : World) (L : List (Nat × RV)) (T : List (JV × RV)) : Prop where
 below : Below b w0 W
 le : b <= W.heap.size
 loc : ∀ (i g : Nat) (r : RV), L[i]? = some (g, r) -> g < W.heap.size /\ VAt W g r
 tree : ∀ (i : Nat) (t : JV) (r : RV), T[i]? = some (t, r) -> TreeOf W W.heap.size t r
theorem Ctx.nil (w : World) : Ctx w.heap.size w w [] [] := ⟨Below.refl _ _, Nat.le_refl _, fun i g r h => by simp at h, fun i t r h => by simp at h⟩
section
variable {b : Nat} {w0 W w : World} {L : List (Nat × RV)} {T : List (JV × RV)} (h : Ctx b w0 W L T)
include h
theorem Ctx.go (hb : Below W.heap.size W w) : Ctx b w0 w L T :=
 ⟨h.below.trans (hb.mono h.le), Nat.le_trans h.le hb.size, fun i g r hi => ⟨Nat.lt_of_lt_of_le (h.loc i g r hi).1 hb.size, (h.loc i g r hi).2.under hb (h.loc i g r hi).1⟩, fun i t r hi => (h.tree i t r hi).under hb hb.size⟩
theorem Ctx.alloc (x : RV) : Ctx b w0 (W.alloc x.obj) ((W.heap.size, x) :: L) T := by
 have g := h.go ((Below.refl _ _).alloc (Nat.le_refl _) x.obj)
 refine ⟨g.below, g.le, fun i k r hi => ?_, g.tree⟩
 cases i with
 | zero =>
   cases hi
   exact ⟨by simp, heap_alloc_at rfl⟩
 | succ i => exact g.loc i k r hi
theorem Ctx.know {t : JV} {x : RV} (hx : TreeOf W W.heap.size t x) : Ctx b w0 W L ((t, x) :: T) := by
 refine ⟨h.below, h.le, h.loc, fun i u r hi => ?_⟩
 cases i with
 | zero => cases hi; exact hx
 | succ i => exact h.tree i u r hi
theorem Ctx.box (hk : KB W.heap.size W w) {t : JV} {x : RV} (hx : TreeOf w w.heap.size t x) : Ctx b w0 (w.alloc x.obj) ((w.heap.size, x) :: L) ((t, x) :: T) :=
 ((h.go hk.1).know hx).alloc x
theorem Ctx.lt (i : Nat) {g : Nat} {r : RV} (hi : L[i]? = some (g, r)) : g < W.heap.size := (h.loc i g r hi).1
theorem Ctx.at (i : Nat) {g : Nat} {r : RV} (hi : L[i]? = some (g, r)) : VAt W g r := (h.loc i g r hi).2
theorem Ctx.fin (hk : KB W.heap.size W w) : Below b w0 w := h.below.trans (hk.1.mono h.le)
end
end
section
def digU (b : UInt8) : Bool := decide (48 <= b.toNat) && decide (b.toNat <= 57)
def stepD (n : Int) (b : UInt8) : Int := n * 10 + ((b.toNat : Int) - 48)
def valD (l : List UInt8) : Int := l.foldl stepD 0
theorem valD_snoc (r : List UInt8) (b : UInt8) : valD (r ++ [b]) = stepD (valD r) b := by unfold valD; rw [List.foldl_append]; rfl
theorem foldD_le : ∀ (l : List UInt8) (n : Int), l.all digU = true -> 0 <= n -> n <= l.foldl stepD n
 | [], n, _, _ => Int.le_refl _
 | b :: l, n, h, h0 => by
   rw [List.all_cons, Bool.and_eq_true] at h
   have hb := h.1
   unfold digU at hb
   rw [Bool.and_eq_true, decide_eq_true_eq, decide_eq_true_eq] at hb
   have h1 : n <= stepD n b := by unfold stepD; omega
   exact Int.le_trans h1 (foldD_le l (stepD n b) h.2 (Int.le_trans h0 h1))
theorem valD_nonneg {l : List UInt8} (h : l.all digU = true) : 0 <= valD l := foldD_le l 0 h (Int.le_refl _)
section
variable {α : Type} (lt : α -> α -> Bool)
structure LtOk : Prop where
 asym : ∀ a b, lt a b = true -> lt b a = false
 ntrans : ∀ a b c, lt b a = false -> lt c b = false -> lt c a = false
def childOf (c p : Nat) : Prop := c = 2 * p + 1 \/ c = 2 * p + 2
def HeapF (f : Nat -> α) (n k : Nat) : Prop := ∀ p c, k <= p -> childOf c p -> c < n -> lt (f c) (f p) = false
structure HeapEx (f : Nat -> α) (n k i : Nat) : Prop where
 rest : ∀ p c, k <= p -> p ≠ i -> childOf c p -> c < n -> lt (f c) (f p) = false
 over : ∀ p c, k <= p -> childOf i p -> childOf c i -> c < n -> lt (f c) (f p) = false
 ge : k <= i
def swapF (f : Nat -> α) (i j : Nat) : Nat -> α := fun k => if k = i then f j else if k = j then f i else f k
variable {lt}
theorem HeapEx.start {f : Nat -> α} {n k : Nat} (h : HeapF lt f n (k + 1)) : HeapEx lt f n k k :=
 ⟨fun p c hp hn hc hl => h p c (by omega) hc hl, fun p c hp hi hc hl => by unfold childOf at hi; omega, Nat.le_refl _⟩
theorem HeapEx.leaf {f : Nat -> α} {n k i : Nat} (h : HeapEx lt f n k i) (hi : n <= 2 * i + 1) : HeapF lt f n k := fun p c hp hc hl => by
 by_cases e : p = i
 ·subst e; unfold childOf at hc; omega
 ·exact h.rest p c hp e hc hl
def MinChild (lt : α -> α -> Bool) (f : Nat -> α) (n i j : Nat) : Prop := childOf j i /\ j < n /\ ∀ c, childOf c i -> c < n -> lt (f c) (f j) = false
theorem HeapEx.stop {f : Nat -> α} {n k i j : Nat} (L : LtOk lt) (h : HeapEx lt f n k i) (hj : MinChild lt f n i j) (hl : lt (f j) (f i) = false) : HeapF lt f n k := fun p c hp hc hn => by
 by_cases e : p = i
 ·subst e; exact L.ntrans _ _ _ hl (hj.2.2 c hc hn)
 ·exact h.rest p c hp e hc hn
theorem HeapEx.swap {f : Nat -> α} {n k i j : Nat} (L : LtOk lt) (h : HeapEx lt f n k i) (hj : MinChild lt f n i j) (hl : lt (f j) (f i) = true) : HeapEx lt (swapF f i j) n k j := by
 obtain ⟨hji, hjn, hmin⟩ := hj
 have hij : i < j := by unfold childOf at hji; omega
 have hk := h.ge
 refine ⟨fun p c hp hn hc hcl => ?_, fun p c hp hi hc hcl => ?_, by omega⟩
 ·unfold swapF
  by_cases e : p = i
  ·subst e
   by_cases e2 : c = j
   ·subst e2
    rw [if_neg (by omega), if_pos rfl, if_pos rfl]
    exact L.asym _ _ hl
   ·rw [if_neg (by unfold childOf at hc; omega), if_neg e2, if_pos rfl]
    exact hmin c hc hcl
  ·rw [if_neg (show ¬ p = i from e), if_neg hn]
   by_cases e2 : c = i
   ·subst e2
    rw [if_pos rfl]
    exact h.over p j hp hc hji hjn
   ·by_cases e3 : c = j
    ·subst e3
     exact absurd (by unfold childOf at hc hji; omega) e
    ·rw [if_neg e2, if_neg e3]
     exact h.rest p c hp e hc hcl
 ·have hpi : p = i := by unfold childOf at hi hji; omega
  subst hpi
  unfold swapF
  rw [if_neg (by unfold childOf at hc; omega), if_neg (by unfold childOf at hc; omega), if_pos rfl]
  exact h.rest j c (by omega) (by omega) hc hcl
theorem HeapF.min {f : Nat -> α} {n : Nat} (L : LtOk lt) (h : HeapF lt f n 0) : ∀ i, i < n -> lt (f i) (f 0) = false := by
 intro i
 induction i using Nat.strongRecOn with
 | ind i ih =>
   intro hi
   by_cases h0 : i = 0
   ·subst h0
    cases hl : lt (f 0) (f 0) with
    | false => rfl
    | true => have := L.asym _ _ hl; rw [hl] at this; cases this
   ·have hp : childOf i ((i - 1) / 2) := by unfold childOf; omega
    exact L.ntrans _ _ _ (ih ((i - 1) / 2) (by omega) (by omega)) (h _ i (Nat.zero_le _) hp hi)
theorem HeapF.none {f : Nat -> α} {n : Nat} : HeapF lt f n (n / 2) := fun p c hp hc hn => by unfold childOf at hc; omega
theorem HeapF.mono {f : Nat -> α} {n k k' : Nat} (h : HeapF lt f n k) (hk : k <= k') : HeapF lt f n k' := fun p c hp hc hn => h p c (by omega) hc hn
theorem HeapF.congr {f g : Nat -> α} {n n' k : Nat} (h : HeapF lt f n k) (he : ∀ i, i < n' -> f i = g i) (hn : n' <= n) : HeapF lt g n' k := fun p c hp hc hl => by
 rw [<- he c hl, <- he p (by unfold childOf at hc; omega)]
 exact h p c hp hc (by omega)
def swapL (xs : List α) (i j : Nat) (hi : i < xs.length) (hj : j < xs.length) : List α := (xs.set i xs[j]).set j xs[i]
theorem swapL_get {xs : List α} {i j : Nat} {hi : i < xs.length} {hj : j < xs.length} (hne : i ≠ j) (d : α) : (fun k => (swapL xs i j hi hj).getD k d) = swapF (fun k => xs.getD k d) i j := by
 funext k
 unfold swapL swapF
 simp only [List.getD_eq_getElem?_getD, List.getElem?_set, List.length_set]
 by_cases h1 : k = i
 ·subst h1
  rw [if_neg (fun e => hne e.symm), if_pos rfl, if_pos hi, if_pos rfl, List.getElem?_eq_getElem hj]
 ·rw [if_neg (c := k = i) h1]
  by_cases h2 : k = j
  ·subst h2
   rw [if_pos rfl, if_pos hj, if_pos rfl, List.getElem?_eq_getElem hi]
  ·rw [if_neg (fun e => h2 e.symm), if_neg (fun e => h1 e.symm), if_neg h2]
theorem swapL_perm {xs : List α} {i j : Nat} {hi : i < xs.length} {hj : j < xs.length} : (swapL xs i j hi hj).Perm xs := List.set_set_perm hi hj
structure PopI (lt : α -> α -> Bool) (d : α) (l out xs : List α) : Prop where
 perm : (out ++ xs).Perm l
 heap : HeapF lt (fun k => xs.getD k d) xs.length 0
 sorted : out.Pairwise (fun a b => lt b a = false)
 low : ∀ a ∈ out, ∀ b ∈ xs, lt b a = false
theorem PopI.pop {d : α} {l out xs ys : List α} {x : α} (L : LtOk lt) (h : PopI lt d l out xs) (hx : xs[0]? = some x) (hp : (x :: ys).Perm xs) (hh : HeapF lt (fun k => ys.getD k d) ys.length 0) : PopI lt d l (out ++ [x]) ys := by
 have hxm : x ∈ xs := List.mem_of_getElem? hx
 have hmin : ∀ b ∈ xs, lt b x = false := fun b hb => by
  obtain ⟨i, hi⟩ := List.getElem?_of_mem hb
  have h1 := h.heap.min L i (List.getElem?_eq_some_iff.1 hi).1
  rw [List.getD_eq_getElem?_getD, List.getD_eq_getElem?_getD, hi, hx] at h1
  exact h1
 refine ⟨?_, hh, ?_, ?_⟩
 ·rw [List.append_assoc]
  exact ((List.Perm.append_left out hp).trans h.perm)
 ·rw [List.pairwise_append]
  exact ⟨h.sorted, by simp, fun a ha b hb => by rw [List.mem_singleton.1 hb]; exact h.low a ha x hxm⟩
 ·intro a ha b hb
  have hbx : b ∈ xs := hp.mem_iff.1 (List.mem_cons_of_mem _ hb)
  rcases List.mem_append.1 ha with ha | ha
  ·exact h.low a ha b hbx
  ·rw [List.mem_singleton.1 ha]; exact hmin b hbx
theorem sorted_unique : ∀ (a b : List α), (∀ x ∈ a, ∀ y ∈ a, lt x y = false -> lt y x = false -> x = y) -> a.Perm b -> a.Pairwise (fun x y => lt y x = false) -> b.Pairwise (fun x y => lt y x = false) -> a = b
 | [], b, _, hp, _, _ => by rw [List.Perm.nil_eq hp]
 | x :: a, [], _, hp, _, _ => by have := hp.length_eq; simp at this
 | x :: a, y :: b, ht, hp, ha, hb => by
   rw [List.pairwise_cons] at ha hb
   have hxy : x = y := by
    have hy : y ∈ x :: a := hp.mem_iff.2 (by simp)
    have hx : x ∈ y :: b := hp.mem_iff.1 (by simp)
    rcases List.mem_cons.1 hy with h | h
    ·exact h.symm
    ·rcases List.mem_cons.1 hx with h2 | h2
     ·exact h2
     ·exact ht x (by simp) y hy (hb.1 x h2) (ha.1 y h)
   subst hxy
   rw [sorted_unique a b (fun p hp' q hq => ht p (List.mem_cons_of_mem _ hp') q (List.mem_cons_of_mem _ hq)) (List.Perm.cons_inv hp) ha.2 hb.2]
end
end
section
open Go Go.RowKit
section
variable {α : Type} {enc : α -> List Value} {sz : Nat} {e : TypeId}
theorem grownT {w w' w'' : World} {row : Option Nat} (h : w.grownBy w' row) (k : w'.grownBy w'' row) : w.grownBy w'' row :=
 ⟨k.os.trans h.os, k.tape.trans h.tape, k.output.trans h.output, Nat.le_trans h.size k.size, fun i hi hne => (k.block i (Nat.lt_of_lt_of_le hi h.size) hne).trans (h.block i hi hne)⟩
def putL : List Value -> Nat -> List Value -> List Value
 | cs, _, [] => cs
 | cs, s, v :: vs => putL (cs.set s v) (s + 1) vs
theorem putL_at : ∀ (a b r pre : List Value), a.length = b.length -> putL (pre ++ (a ++ r)) pre.length b = pre ++ (b ++ r)
 | [], [], _, _, _ => rfl
 | [], _ :: _, _, _, h => by cases h
 | _ :: _, [], _, _, h => by cases h
 | x :: a, y :: b, r, pre, h => by
   have ih := putL_at a b r (pre ++ [y]) (by simpa using h)
   rw [List.length_append, List.length_singleton] at ih
   show putL ((pre ++ (x :: (a ++ r))).set pre.length y) (pre.length + 1) b = _
   rw [List.set_append_right _ _ (Nat.le_refl _), Nat.sub_self, List.set_cons_zero, show pre ++ y :: (a ++ r) = (pre ++ [y]) ++ (a ++ r) by simp, ih]
   simp
theorem cellsOf_put (C : Codec enc sz) {xs : List α} {k : Nat} {x y : α} (hx : xs[k]? = some x) : putL (cellsOf enc xs) (k * sz) (enc y) = cellsOf enc (xs.set k y) := by
 obtain ⟨hk, he⟩ := List.getElem?_eq_some_iff.1 hx
 have e1 : xs = xs.take k ++ (x :: xs.drop (k + 1)) := by rw [<- he, <- List.drop_eq_getElem_cons hk, List.take_append_drop]
 have e2 : xs.set k y = xs.take k ++ (y :: xs.drop (k + 1)) := List.set_eq_take_append_cons_drop.trans (if_pos hk)
 have hp : (cellsOf enc (xs.take k)).length = k * sz := by rw [cellsOf_len C, List.length_take, Nat.min_eq_left (Nat.le_of_lt hk)]
 rw [e2]
 conv => lhs; rw [e1]
 rw [cellsOf_append, cellsOf_append]
 show putL (_ ++ (enc x ++ cellsOf enc (xs.drop (k + 1)))) _ _ = _ ++ (enc y ++ cellsOf enc (xs.drop (k + 1)))
 rw [<- hp]
 exact putL_at _ _ _ _ (by rw [C.len, C.len])
theorem ownsRow_put {g n cap base : Nat} : ∀ (vs : List Value) (s : Nat) (w : World) (cs : List Value), w.ownsRow base e sz (.slice (some ⟨g, 0, none⟩) n cap) n cs -> (w.setCells g s vs).ownsRow base e sz (.slice (some ⟨g, 0, none⟩) n cap) n (putL cs s vs) /\ w.grownBy (w.setCells g s vs) (some g)
 | [], s, w, cs, h => ⟨h, World.grownBy.refl w _⟩
 | v :: vs, s, w, cs, h => by
   obtain ⟨h1, h2⟩ := World.ownsRow.stored h s v
   obtain ⟨h3, h4⟩ := ownsRow_put vs (s + 1) _ _ h1
   exact ⟨h3, grownT h2 h4⟩
theorem Own.storeRow (C : Codec enc sz) (P : Program) {w : World} {base g n cap : Nat} {xs : List α} (h : Own w base e enc sz (.slice (some ⟨g, 0, none⟩) n cap) xs) {k : Nat} {x : α} (hx : xs[k]? = some x) (y : α) :
 Sem.run P (storeCells ⟨g, k * sz, none⟩ (enc y) 0) w = .ok () (w.setCells g (k * sz) (enc y)) /\ Own (w.setCells g (k * sz) (enc y)) base e enc sz (.slice (some ⟨g, 0, none⟩) n cap) (xs.set k y) /\ w.grownBy (w.setCells g (k * sz) (enc y)) (some g) := by
 obtain ⟨g', e1, hn, hb, hlt, hc, hf⟩ := Own.at C h hx
 injection e1 with e1
 injection e1 with e1
 subst e1
 subst hn
 have h2 := ownsRow_put (enc y) (k * sz) w _ h
 rw [cellsOf_put C hx] at h2
 refine ⟨?_, ?_, h2.2⟩
 ·refine run_storeCells_cells g (k * sz) (enc y) 0 w (fun j hj => ?_) (fun j _ => hf _) (C.one y)
  rw [C.len] at hj
  obtain ⟨u, hu⟩ : ∃ u, (enc x)[j]? = some u := ⟨_, List.getElem?_eq_getElem (by rw [C.len]; exact hj)⟩
  rw [Nat.add_zero, hc j u hu]
  rfl
 ·have h3 := h2.1
  unfold Own
  rw [List.length_set]
  exact h3
theorem Own.loadRow (C : Codec enc sz) (P : Program) {w : World} {base g n cap : Nat} {xs : List α} (h : Own w base e enc sz (.slice (some ⟨g, 0, none⟩) n cap) xs) {k : Nat} {x : α} (hx : xs[k]? = some x) :
 Sem.run P (loadCellsFrom ⟨g, k * sz, none⟩ 0 sz #[]) w = .ok (enc x).toArray w := by
 obtain ⟨g', e1, hn, hb, hlt, hc, hf⟩ := Own.at C h hx
 injection e1 with e1
 injection e1 with e1
 subst e1
 exact Go.Proofs.run_loadCellsFrom_list P w _ (enc x) sz (C.len x) (fun j v hv => by rw [add_eq]; exact hc j v hv)
theorem Own.drewO {w : World} {base : Nat} {v : Value} {xs : List α} (h : Own w base e enc sz v xs) : Own w.drew base e enc sz v xs := h
theorem Own.swapped (C : Codec enc sz) (P : Program) {w : World} {base g n cap : Nat} {xs : List α} (h : Own w base e enc sz (.slice (some ⟨g, 0, none⟩) n cap) xs) {i j : Nat} {x y : α} (hi : xs[i]? = some x) (hj : xs[j]? = some y) :
 Sem.run P (storeCells ⟨g, i * sz, none⟩ (enc y) 0) w = .ok () (w.setCells g (i * sz) (enc y)) /\
 Sem.run P (storeCells ⟨g, j * sz, none⟩ (enc x) 0) (w.setCells g (i * sz) (enc y)) = .ok () ((w.setCells g (i * sz) (enc y)).setCells g (j * sz) (enc x)) /\
 Own ((w.setCells g (i * sz) (enc y)).setCells g (j * sz) (enc x)) base e enc sz (.slice (some ⟨g, 0, none⟩) n cap) ((xs.set i y).set j x) /\ w.grownBy ((w.setCells g (i * sz) (enc y)).setCells g (j * sz) (enc x)) (some g) := by
 obtain ⟨s1, o1, g1⟩ := Own.storeRow C P h hi y
 obtain ⟨z, hz⟩ : ∃ z, (xs.set i y)[j]? = some z := ⟨_, List.getElem?_eq_getElem (by rw [List.length_set]; exact (List.getElem?_eq_some_iff.1 hj).1)⟩
 obtain ⟨s2, o2, g2⟩ := Own.storeRow C P o1 hz x
 exact ⟨s1, s2, o2, grownT g1 g2⟩
theorem Own.firstN (C : Codec enc sz) {w : World} {base g n cap : Nat} {xs : List α} (h : Own w base e enc sz (.slice (some ⟨g, 0, none⟩) n cap) xs) (m : Nat) (hm : m <= n) : Own w base e enc sz (.slice (some ⟨g, 0, none⟩) m cap) (xs.take m) := by
 obtain ⟨hl, h0⟩ := h
 rcases h0 with ⟨hv, hn⟩ | ⟨g', cap', cur, hv, hg, hh, hnc, hcm, hcs, ht⟩
 ·cases hv
 ·simp only [Value.slice.injEq, Option.some.injEq, Addr.mk.injEq, and_true, true_and] at hv
  obtain ⟨rfl, rfl, rfl⟩ := hv
  have hlen : (xs.take m).length = m := by rw [List.length_take, Nat.min_eq_left hm]
  have hc2 : (cellsOf enc (xs.take m)).length = m * sz := by rw [cellsOf_len C, hlen]
  have e1 : cellsOf enc xs = cellsOf enc (xs.take m) ++ cellsOf enc (xs.drop m) := by rw [<- cellsOf_append, List.take_append_drop]
  have e2 : cellsOf enc (xs.take m) = (cellsOf enc xs).take (m * sz) := by
   rw [e1, <- hc2, List.take_left]
  refine ⟨by rw [cellsOf_len C], .inr ⟨g, cap, cur, by rw [hlen], hg, hh, by rw [hlen]; omega, hcm, hcs, ?_⟩⟩
  rw [hlen, e2, <- ht, List.take_take, Nat.min_eq_left (Nat.mul_le_mul_right sz hm)]
end
end
section
open Go.RowKit Go.OpenShut
def GetRetB (w : World) (B : Nat) (o : Option JV) (e : Ending) (w' : World) : Prop :=
 ∃ r b, e = .returned (.tuple #[RV.val r, .bool b]) /\ b = o.isSome /\ TreeOf w' B (o.getD JV.zero) r /\ Below w.heap.size w w'
theorem getB_any (t : JV) (r : RV) (name : ByteArray) (w : World) (B : Nat) (hBw : B <= w.heap.size) (ht : TreeOf w B t r) (ot : t.Ok) :
 Calls Tryz.prog 22 #[r.val, .string name] w (GetRetB w B (t.get name)) := by
 obtain ⟨k, n, s, pl, nl, cl, pm, nm, cm⟩ := r
 dsimp only [RV.val] at *
 have HT := Lib.hid ht
 have HO := Lib.hid ot
 have hA0 : VAt ((w.alloc (.cells #[.int .i64 k, .int .i64 n, .string s, .slice pl nl cl, .slice pm nm cm] 25)).alloc (.cells #[.int .i64 0, .int .i64 0, .string ⟨#[]⟩, .slice none 0 0, .slice none 0 0] 25)) w.heap.size ⟨k, n, s, pl, nl, cl, pm, nm, cm⟩ := heap_alloc_lt (by simp) (heap_alloc_at rfl)
 have hA1 : VAt ((w.alloc (.cells #[.int .i64 k, .int .i64 n, .string s, .slice pl nl cl, .slice pm nm cm] 25)).alloc (.cells #[.int .i64 0, .int .i64 0, .string ⟨#[]⟩, .slice none 0 0, .slice none 0 0] 25)) (w.heap.size + 1) RV.zero := heap_alloc_at (by simp)
 have hB0 := below2 w (.cells #[.int .i64 k, .int .i64 n, .string s, .slice pl nl cl, .slice pm nm cm] 25) (.cells #[.int .i64 0, .int .i64 0, .string ⟨#[]⟩, .slice none 0 0, .slice none 0 0] 25)
 clear ht ot
 go_enter Tryz.func22, Tryz.ntmps22
 go_upto_region 1 with fail
 obtain ⟨W0, hW0⟩ : ∃ W0, ((w.alloc (.cells #[.int .i64 k, .int .i64 n, .string s, .slice pl nl cl, .slice pm nm cm] 25)).alloc (.cells #[.int .i64 0, .int .i64 0, .string ⟨#[]⟩, .slice none 0 0, .slice none 0 0] 25)) = W0 := ⟨_, rfl⟩
 rw [hW0] at hA0 hA1 hB0 ⊢
 clear hW0
 obtain ⟨p0, p1, p2, p3, p4⟩ := hA0.cells5
 go_upto_region 2 with (go_at_call 42; refine (place_any t ⟨k, n, s, pl, nl, cl, pm, nm, cm⟩ name _ (HT.out.under (hB0.mono hBw) (Nat.le_trans hBw hB0.size)) HO.out).mono ?_; rintro e w1 ⟨rfl, hb1⟩)
 have hzz : w.heap.size + 1 < W0.heap.size := hA1.lt
 have HA1 : VAt w1 (w.heap.size + 1) RV.zero := hA1.under hb1 hzz
 have HA0 : VAt w1 w.heap.size ⟨k, n, s, pl, nl, cl, pm, nm, cm⟩ := hA0.under hb1 (by omega)
 have HB1 := hB0.trans (hb1.mono hB0.size)
 have hTw := Lib.hid (HT.out.under (HB1.mono hBw) (Nat.le_refl _))
 clear p0 p1 p2 p3 p4 hA0 hA1 hB0 hb1
 obtain ⟨z0, z1, z2, z3, z4⟩ := HA1.cells5
 have y0 := HA1.frozen 0
 have y1 := HA1.frozen 1
 have y2 := HA1.frozen 2
 have y3 := HA1.frozen 3
 have y4 := HA1.frozen 4
 have p4 := HA0.cell 4 rfl
 dsimp only [RV.zero] at z0 z1 z2 z3 z4 p4
 have HZ := Lib.hid HA1
 clear HA1 HA0
 generalize hp : t.place name = o
 cases o with
 | none =>
   have HG : Hid (t.get name = none) := by unfold Hid JV.get; rw [hp]; rfl
   have hn : placeI (none : Option Nat) = -1 := rfl
   rw [hn]
   clear hp hn
   go_wp2_with fail
   have HZ2 := HZ.out.stored RV.zero
   refine bodyPost_ret (v := .tuple #[RV.val RV.zero, .bool false]) (by simp [results, Tryz.results22, go_sem, RV.zero, z0, z1, z2, z3, z4]) rfl ⟨RV.zero, false, rfl, by rw [HG.out]; rfl, by rw [HG.out]; exact TreeOf.zero _ _, Below.stored HB1 (by omega) RV.zero⟩
 | some i =>
   obtain ⟨p, hm1, hk6, hget⟩ := place_mem hp
   have HG := Lib.hid hget
   have hn : placeI (some i) = (i : Int) := rfl
   rw [hn]
   clear hp hn hget
   have hT2 := hTw.out
   generalize hr : (⟨k, n, s, pl, nl, cl, pm, nm, cm⟩ : RV) = r at hT2
   cases hT2 with
   | @mk _ l m rs rms hl el hcl hm em hcn hcm =>
   subst hr
   dsimp only [JV.m] at *
   have hi := (List.getElem?_eq_some_iff.1 hm1).1
   obtain ⟨q, hq⟩ : ∃ q, rms[i]? = some q := ⟨_, List.getElem?_eq_getElem (by omega)⟩
   obtain ⟨b1, o1, rfl, hb1, hc1⟩ := rd_at' hm hq
   have HTq := Lib.hid (hcm i p q hm1 hq)
   have f0 := hc1 0 _ rfl
   have f1 := hc1 1 _ rfl
   have f2 := hc1 2 _ rfl
   have f3 := hc1 3 _ rfl
   have f4 := hc1 4 _ rfl
   have f5 := hc1 5 _ rfl
   have hi0 : (0 : Int) <= (i : Int) := Int.natCast_nonneg _
   have hi1 : (i : Int) < (nm : Int) := by have := rd_nlen hm; omega
   clear hcl hcn hcm hl hm em el hc1 hm1 hq
   go_wp2_with fail
   have HZ2 := HZ.out.stored q.v
   have HBs : Below w1.heap.size w1 w1 := Below.refl _ _
   refine bodyPost_ret (v := .tuple #[RV.val q.v, .bool true]) (by simp [results, Tryz.results22, go_sem, z0, z1, z2, z3, z4]) rfl ⟨q.v, true, rfl, by rw [HG.out]; rfl, ?_, Below.stored HB1 (by omega) q.v⟩
   rw [HG.out]
   exact HTq.out.under (Below.stored (Below.refl _ _) (by omega) q.v) (Nat.le_refl _)
theorem refGetB_any (t : JV) (r : RV) (name : ByteArray) (w : World) (B : Nat) (hBw : B <= w.heap.size) (ht : TreeOf w B t r) (ot : t.Ok) :
 Calls Tryz.prog 56 #[r.val, .string name] w (GetRetB w B (t.get name)) := by
 cases ht with
 | @mk _ l m rs rms hl el hcl hm em hcn hcm =>
 obtain ⟨k, n, s, pl, nl, cl, pm, nm, cm⟩ := r
 cases ot with
 | mk _ _ _ bl bm okl oks okm =>
 dsimp only [RV.val] at *
 have eM := rd_nlen hm
 have hA0 : VAt ((w.alloc (.cells #[.int .i64 k, .int .i64 n, .string s, .slice pl nl cl, .slice pm nm cm] 25)).alloc (.cells #[.int .i64 0, .int .i64 0, .string ⟨#[]⟩, .slice none 0 0, .slice none 0 0] 25)) w.heap.size ⟨k, n, s, pl, nl, cl, pm, nm, cm⟩ := heap_alloc_lt (by simp) (heap_alloc_at rfl)
 have hA1 : VAt ((w.alloc (.cells #[.int .i64 k, .int .i64 n, .string s, .slice pl nl cl, .slice pm nm cm] 25)).alloc (.cells #[.int .i64 0, .int .i64 0, .string ⟨#[]⟩, .slice none 0 0, .slice none 0 0] 25)) (w.heap.size + 1) RV.zero := heap_alloc_at (by simp)
 have hB0 := below2 w (.cells #[.int .i64 k, .int .i64 n, .string s, .slice pl nl cl, .slice pm nm cm] 25) (.cells #[.int .i64 0, .int .i64 0, .string ⟨#[]⟩, .slice none 0 0, .slice none 0 0] 25)
 have HN := Lib.hid hcn
 have HM := Lib.hid hm
 have HV := Lib.hid hcm
 have E2 : Hid (m.length = nm /\ rms.length = nm) := ⟨by omega, by omega⟩
 have hnm : nm <= 1466015503658 := by omega
 have HG6 : Hid (k = 6 -> (JV.mk k n s l m).place name = m.findIdx? (fun p => decide (p.1 = name)) /\ (JV.mk k n s l m).mem = m) := by
  intro h
  have e : (JV.mk k n s l m).mem = m := by show (if k = 6 then m else []) = m; rw [if_pos h]
  exact ⟨by unfold JV.place; rw [e], e⟩
 have HGN : Hid (k ≠ 6 -> (JV.mk k n s l m).get name = none) := by
  intro h
  have e : (JV.mk k n s l m).mem = [] := by show (if k = 6 then m else []) = []; rw [if_neg h]
  unfold JV.get JV.place; rw [e]; rfl
 clear hcl hcn hcm hl hm okl oks okm el em bl bm eM
 go_enter Tryz.func56, Tryz.ntmps56
 go_upto_region 1 with fail
 obtain ⟨W0, hW0⟩ : ∃ W0, ((w.alloc (.cells #[.int .i64 k, .int .i64 n, .string s, .slice pl nl cl, .slice pm nm cm] 25)).alloc (.cells #[.int .i64 0, .int .i64 0, .string ⟨#[]⟩, .slice none 0 0, .slice none 0 0] 25)) = W0 := ⟨_, rfl⟩
 rw [hW0] at hA0 hA1 hB0 ⊢
 clear hW0
 have hz := hA1.lt
 have c0 := hA0.cell 0 rfl
 have c4 := hA0.cell 4 rfl
 obtain ⟨z0, z1, z2, z3, z4⟩ := hA1.cells5
 dsimp only [RV.zero] at c0 c4 z0 z1 z2 z3 z4
 have y0 := hA1.frozen 0
 have y1 := hA1.frozen 1
 have y2 := hA1.frozen 2
 have y3 := hA1.frozen 3
 have y4 := hA1.frozen 4
 have HZ := Lib.hid hA1
 clear hA0 hA1
 by_cases hk : k = 6
 ·subst hk
  have HPL := HG6
  clear HG6 HGN
  go_wp2_with fail
  go_loopw [6] (fun i wr => ∃ k : Nat, k <= nm /\ i = .int .i64 k /\ Hid (∀ (j : Nat) y, j < k -> m[j]? = some y -> decide (y.1 = name) = false) /\ wr = W0) (fun i _ => nm - (intOf i).toNat)
  case atStart => exact ⟨0, Nat.zero_le _, rfl, fun j y h => by omega, rfl⟩
  case round =>
   obtain ⟨k, hk, rfl, hno, rfl⟩ := hrel
   by_cases hlt : k < nm
   ·obtain ⟨tx, htx⟩ : ∃ x, m[k]? = some x := ⟨_, List.getElem?_eq_getElem (by have := E2.out; omega)⟩
    obtain ⟨x, hx⟩ : ∃ x, rms[k]? = some x := ⟨_, List.getElem?_eq_getElem (by have := E2.out; omega)⟩
    obtain ⟨b1, o1, rfl, hb1, hc1⟩ := rd_at' (HM.out.below (hB0.mono hBw) (Nat.le_refl _)) hx
    have f0 := hc1 0 _ rfl
    have f1 := hc1 1 _ rfl
    have f2 := hc1 2 _ rfl
    have f3 := hc1 3 _ rfl
    have f4 := hc1 4 _ rfl
    have f5 := hc1 5 _ rfl
    rw [Nat.add_zero] at f0
    have en := HN.out k tx x htx hx
    have HTX := Lib.hid htx
    have HTV := Lib.hid ((HV.out k tx x htx hx).under (hB0.mono hBw) (Nat.le_refl _))
    have hk0 : (0 : Int) <= (k : Int) := Int.natCast_nonneg _
    have hk1 : (k : Int) < (nm : Int) := by omega
    clear hc1 htx hx
    by_cases hnx : x.name = name
    ·have hq : (x.name.toList == name.toList) = true := by rw [str_beq]; simpa using hnx
     have hfi := find_at (p := fun p : ByteArray × JV => decide (p.1 = name)) HTX.out (by rw [en]; simpa using hnx) hno.out
     have HG : Hid ((JV.mk 6 n s l m).get name = some tx.2) := by
      unfold Hid JV.get
      rw [(HPL.out (by simp)).1, hfi]
      show ((JV.mk 6 n s l m).mem[k]?).map (·.2) = _
      rw [(HPL.out (by simp)).2, HTX.out]; rfl
     clear hnx en hfi
     go_wp2_with fail
     refine bodyPost_ret (v := .tuple #[RV.val x.v, .bool true]) (by simp [results, Tryz.results56, go_sem, z0, z1, z2, z3, z4]) rfl ⟨x.v, true, rfl, by rw [HG.out]; rfl, ?_, Below.stored hB0 (by omega) x.v⟩
     rw [HG.out]
     exact HTV.out.under (Below.stored (Below.refl _ _) (by omega) x.v) (Nat.le_refl _)
    ·have hq : (x.name.toList == name.toList) = false := by rw [str_beq]; simpa using hnx
     have HNX : Hid (∀ (j : Nat) y, j < k + 1 -> m[j]? = some y -> decide (y.1 = name) = false) := by
      intro j y hj hy
      by_cases e : j = k
      ·subst e
       have h := HTX.out
       rw [hy] at h
       cases h
       rw [en]; simpa using hnx
      ·exact hno.out j y (by omega) hy
     clear hnx en
     go_wp2_with fail
     go_roundw
     case rel => exact ⟨k + 1, by omega, by go_num, HNX, trivial⟩
     case measure => simp [intOf]; omega
   ·obtain rfl : k = nm := by omega
    have HF := find_not (p := fun p : ByteArray × JV => decide (p.1 = name)) (l := m) (fun j y hy => hno.out j y (by have := (List.getElem?_eq_some_iff.1 hy).1; have := E2.out; omega) hy)
    have HG : Hid ((JV.mk 6 n s l m).get name = none) := by
     unfold Hid JV.get
     rw [(HPL.out (by simp)).1, HF]; rfl
    clear HF
    go_wp2_with fail
    exact bodyPost_ret (v := .tuple #[RV.val RV.zero, .bool false]) (by simp [results, Tryz.results56, go_sem, RV.zero, z0, z1, z2, z3, z4]) rfl ⟨RV.zero, false, rfl, by rw [HG.out]; rfl, by rw [HG.out]; exact TreeOf.zero _ _, Below.stored hB0 (by omega) RV.zero⟩
 ·have HG := Lib.hid (HGN.out hk)
  have hq : (k == 6) = false := by simpa using hk
  clear HG6 HGN hk
  go_wp2_with fail
  go_loopw [6] (fun i wr => i = .int .i64 0 /\ wr = W0) (fun i _ => 0)
  case atStart => exact ⟨rfl, rfl⟩
  case round =>
   obtain ⟨rfl, rfl⟩ := hrel
   by_cases h0 : 0 < nm
   all_goals
    go_wp2_with fail
    exact bodyPost_ret (v := .tuple #[RV.val RV.zero, .bool false]) (by simp [results, Tryz.results56, go_sem, RV.zero, z0, z1, z2, z3, z4]) rfl ⟨RV.zero, false, rfl, by rw [HG.out]; rfl, by rw [HG.out]; exact TreeOf.zero _ _, Below.stored hB0 (by omega) RV.zero⟩
end
section
def formL : List UInt8 := [48, 48, 48, 48, 45, 48, 48, 45, 48, 48, 84, 48, 48, 58, 48, 48, 58, 48, 48]
def posOk (f c : UInt8) : Bool := if f = 48 then digU c else decide (c = f)
def hdOk (l : List UInt8) : Bool := decide (19 <= l.length) && ((formL.zip l).all (fun p => posOk p.1 p.2))
def numAt (l : List UInt8) (i n : Nat) : Int := valD ((l.drop i).take n)
def tlOk (t : List UInt8) : Bool := decide (t = [90]) || (decide (3 <= t.length) && (decide (t.length <= 11) && (decide (t[0]? = some 46) && (decide (t[t.length - 1]? = some 90) && (decide (t[t.length - 2]? ≠ some 48) && ((t.drop 1).take (t.length - 2)).all digU)))))
def leapB (y : Int) : Bool := (decide (y % 4 = 0) && decide (y % 100 ≠ 0)) || decide (y % 400 = 0)
def monthF (y m : Int) : Int := if m = 4 \/ m = 6 \/ m = 9 \/ m = 11 then 30 else if m = 2 then (if leapB y then 29 else 28) else 31
def aheadF (y : Int) : Int := if y = 0 then 0 else 365 * y + (y - 1) / 4 - (y - 1) / 100 + (y - 1) / 400 + 1
def monthsF (y : Int) : Nat -> Int
 | 0 => 0
 | k + 1 => monthsF y k + monthF y (k + 1 : Nat)
def daysF (y m d : Int) : Option Int := if 0 <= y /\ y <= 9999 /\ 1 <= m /\ m <= 12 /\ 1 <= d /\ d <= monthF y m then some (aheadF y - aheadF 1970 + monthsF y (m.toNat - 1) + d - 1) else none
def secF (l : List UInt8) : Option Int :=
 if hdOk l && (tlOk (l.drop 19) && (decide (numAt l 11 2 <= 23) && (decide (numAt l 14 2 <= 59) && decide (numAt l 17 2 <= 59)))) then (daysF (numAt l 0 4) (numAt l 5 2) (numAt l 8 2)).map (fun D => ((D * 24 + numAt l 11 2) * 60 + numAt l 14 2) * 60 + numAt l 17 2) else none
def partF (l : List UInt8) : List UInt8 := ((l.drop 20).take (l.length - 21)) ++ List.replicate (10 - (l.length - 21)) 48
theorem month_pos (y m : Int) : 28 <= monthF y m /\ monthF y m <= 31 := by
 unfold monthF
 split
 ·omega
 ·split
  ·split <;> omega
  ·omega
theorem aheadF_bound {y : Int} (h0 : 0 <= y) (h1 : y <= 10000) : 0 <= aheadF y /\ aheadF y <= 3660000 := by
 unfold aheadF
 split <;> omega
theorem monthsF_bound (y : Int) : ∀ k : Nat, 0 <= monthsF y k /\ monthsF y k <= 31 * k
 | 0 => by simp [monthsF]
 | k + 1 => by
   have h := monthsF_bound y k
   have h2 := month_pos y ((k + 1 : Nat) : Int)
   show 0 <= monthsF y k + monthF y ((k + 1 : Nat) : Int) /\ monthsF y k + monthF y ((k + 1 : Nat) : Int) <= _
   omega
def cmpS (a b : List UInt8) : Int :=
 match secF a, secF b with
 | none, none => Go.Lib.compareBytes a b
 | none, some _ => -1
 | some _, none => 1
 | some x, some y => if x < y then -1 else if y < x then 1 else Go.Lib.compareBytes (partF a) (partF b)
theorem secF_tl {l : List UInt8} {x : Int} (h : secF l = some x) : hdOk l = true /\ tlOk (l.drop 19) = true := by
 unfold secF at h
 split at h
 ·rename_i hc
  rw [Bool.and_eq_true, Bool.and_eq_true] at hc
  exact ⟨hc.1, hc.2.1⟩
 ·cases h
theorem one_more {l : List UInt8} {k : Nat} (h : k + 1 <= l.length) : ∃ c r, l = c :: r /\ k <= r.length := by
 cases l with
 | nil => simp at h
 | cons c r => exact ⟨c, r, rfl, by simpa using h⟩
theorem nineteen {l : List UInt8} (h : 19 <= l.length) : ∃ c0 c1 c2 c3 c4 c5 c6 c7 c8 c9 c10 c11 c12 c13 c14 c15 c16 c17 c18 t, l = c0 :: c1 :: c2 :: c3 :: c4 :: c5 :: c6 :: c7 :: c8 :: c9 :: c10 :: c11 :: c12 :: c13 :: c14 :: c15 :: c16 :: c17 :: c18 :: t := by
 obtain ⟨c0, l1, rfl, h1⟩ := one_more (k := 18) h
 obtain ⟨c1, l2, rfl, h2⟩ := one_more (k := 17) h1
 obtain ⟨c2, l3, rfl, h3⟩ := one_more (k := 16) h2
 obtain ⟨c3, l4, rfl, h4⟩ := one_more (k := 15) h3
 obtain ⟨c4, l5, rfl, h5⟩ := one_more (k := 14) h4
 obtain ⟨c5, l6, rfl, h6⟩ := one_more (k := 13) h5
 obtain ⟨c6, l7, rfl, h7⟩ := one_more (k := 12) h6
 obtain ⟨c7, l8, rfl, h8⟩ := one_more (k := 11) h7
 obtain ⟨c8, l9, rfl, h9⟩ := one_more (k := 10) h8
 obtain ⟨c9, l10, rfl, h10⟩ := one_more (k := 9) h9
 obtain ⟨c10, l11, rfl, h11⟩ := one_more (k := 8) h10
 obtain ⟨c11, l12, rfl, h12⟩ := one_more (k := 7) h11
 obtain ⟨c12, l13, rfl, h13⟩ := one_more (k := 6) h12
 obtain ⟨c13, l14, rfl, h14⟩ := one_more (k := 5) h13
 obtain ⟨c14, l15, rfl, h15⟩ := one_more (k := 4) h14
 obtain ⟨c15, l16, rfl, h16⟩ := one_more (k := 3) h15
 obtain ⟨c16, l17, rfl, h17⟩ := one_more (k := 2) h16
 obtain ⟨c17, l18, rfl, h18⟩ := one_more (k := 1) h17
 obtain ⟨c18, l19, rfl, h19⟩ := one_more (k := 0) h18
 exact ⟨_, _, _, _, _, _, _, _, _, _, _, _, _, _, _, _, _, _, _, _, rfl⟩
theorem hdOk_parts {l : List UInt8} (h : 19 <= l.length) : hdOk l = ((decide (l[4]? = some 45) && (decide (l[7]? = some 45) && (decide (l[10]? = some 84) && (decide (l[13]? = some 58) && decide (l[16]? = some 58))))) &&
 ((((l.drop 0).take 4).all digU && (((l.drop 5).take 2).all digU && ((l.drop 8).take 2).all digU)) && (((l.drop 11).take 2).all digU && (((l.drop 14).take 2).all digU && ((l.drop 17).take 2).all digU)))) := by
 obtain ⟨c0, c1, c2, c3, c4, c5, c6, c7, c8, c9, c10, c11, c12, c13, c14, c15, c16, c17, c18, t, rfl⟩ := nineteen h
 unfold hdOk
 rw [decide_eq_true h, Bool.true_and]
 have e : ((formL.zip (c0 :: c1 :: c2 :: c3 :: c4 :: c5 :: c6 :: c7 :: c8 :: c9 :: c10 :: c11 :: c12 :: c13 :: c14 :: c15 :: c16 :: c17 :: c18 :: t)).all (fun p => posOk p.1 p.2)) = (digU c0 && (digU c1 && (digU c2 && (digU c3 && (decide (c4 = 45) && (digU c5 && (digU c6 && (decide (c7 = 45) && (digU c8 && (digU c9 && (decide (c10 = 84) && (digU c11 && (digU c12 && (decide (c13 = 58) && (digU c14 && (digU c15 && (decide (c16 = 58) && (digU c17 && (digU c18 && true))))))))))))))))))) := rfl
 rw [e]
 simp only [List.getElem?_cons_succ, List.getElem?_cons_zero, Option.some.injEq, List.drop_succ_cons, List.drop_zero, List.take_succ_cons, List.take_zero, List.all_cons, List.all_nil, Bool.and_true]
 generalize digU c0 = d0; generalize digU c1 = d1; generalize digU c2 = d2; generalize digU c3 = d3; generalize digU c5 = d5; generalize digU c6 = d6; generalize digU c8 = d8; generalize digU c9 = d9; generalize digU c11 = d11; generalize digU c12 = d12; generalize digU c14 = d14; generalize digU c15 = d15; generalize digU c17 = d17; generalize digU c18 = d18
 generalize decide (c4 = 45) = s4; generalize decide (c7 = 45) = s7; generalize decide (c10 = 84) = s10; generalize decide (c13 = 58) = s13; generalize decide (c16 = 58) = s16
 rw [Bool.eq_iff_iff]
 simp only [Bool.and_eq_true]
 constructor
 ·rintro ⟨h0, h1, h2, h3, h4, h5, h6, h7, h8, h9, h10, h11, h12, h13, h14, h15, h16, h17, h18⟩
  exact ⟨⟨h4, h7, h10, h13, h16⟩, ⟨⟨h0, h1, h2, h3⟩, ⟨h5, h6⟩, h8, h9⟩, ⟨h11, h12⟩, ⟨h14, h15⟩, h17, h18⟩
 ·rintro ⟨⟨h4, h7, h10, h13, h16⟩, ⟨⟨h0, h1, h2, h3⟩, ⟨h5, h6⟩, h8, h9⟩, ⟨h11, h12⟩, ⟨h14, h15⟩, h17, h18⟩
  exact ⟨h0, h1, h2, h3, h4, h5, h6, h7, h8, h9, h10, h11, h12, h13, h14, h15, h16, h17, h18⟩
end
end Go.Proofs.YtjhginendpjimaaGreatDoor
