import Derived.Test.YtffhccmppdgmfaaGreatDoorB04
import Derived.Test.YtffhccmppdgmfaaGreatDoorB06
import Derived.Defers
import Derived.Recover
import Derived.Test.YtffhccmppdgmfaaGreatDoorB05
import Derived.Test.YtffhccmppdgmfaaGreatDoorB02
import Derived.Test.YtffhccmppdgmfaaGreatDoorB01
import Derived.Deep.RegionHeld3
import Derived.Deep.RegionLaw
set_option linter.unusedSimpArgs false
set_option linter.unusedVariables false
set_option maxRecDepth 200000
set_option maxHeartbeats 8000000
namespace Go.Proofs.YtffhccmppdgmfaaGreatDoor
section
open Go Go.RowKit Go.OpenShut
theorem readCatch_idle (a b c : Value) (w : World) : CallsD Tryz.prog 77 #[a, b, c] .returning w fun e u' w' => e = .returned (.tuple #[]) /\ u' = .returning /\ w' = w := by
 refine callsD_of_wpS Tryz.func77 rfl fun c₀ cs hu => ?_
 apply wpS_seq
 apply wpS_region
 simp [wpOpsS, go_sem, recoverD, hu, Tryz.ntmps77, Exit.thenS]
 apply wpS_seq
 apply wpS_region
 simp [wpOpsS, go_sem, Exit.thenS]
 refine wpS_cond (t := false) (by simp [Act.eval, Array.replicate]) ?_
 simp only [Bool.false_eq_true, if_false]
 refine wpS_of_wp (wp_skip ?_)
 cases c₀
 simp_all [bodyPostS, results, Tryz.results77]
def NumBk (W : World) (ty : TypeId) (g : Nat) (n : Int) : Prop := W.heap[g]? = some (.cells #[.int .i64 n] ty (0, 0))
section
variable {W W' : World} {ty : TypeId} {g : Nat} {n : Int} (h : NumBk W ty g n)
include h
theorem NumBk.lt : g < W.heap.size := (Array.getElem?_eq_some_iff.1 h).1
theorem NumBk.cell : W.cell? ⟨g, 0, none⟩ = some (.int .i64 n) := by
 unfold NumBk at h
 rw [cell_of_row W g 0 _ _ _ h]
 rfl
theorem NumBk.frozen : W.frozen? ⟨g, 0, none⟩ = false := by
 unfold NumBk at h
 simp [World.frozen?, h]
theorem NumBk.keep (hk : W'.heap[g]? = W.heap[g]?) : NumBk W' ty g n := hk.trans h
theorem NumBk.set (m : Int) : NumBk (W.setCell ⟨g, 0, none⟩ (.int .i64 m)) ty g m := by
 unfold NumBk at h ⊢
 simp [World.setCell, Array.getElem?_modify, h]
end
def ReadRet (w : World) (v : JV) (e : Ending) (w' : World) : Prop := ∃ r : RV, e = .returned (.tuple #[RV.val r, .int .i64 0, .int .i64 0]) /\ TreeOf w' w'.heap.size v r /\ Below w.heap.size w w'
def ReadRetS (w : World) (v : JV) (e : Ending) (w' : World) : Prop := ∃ r : RV, e = .returned (.tuple #[RV.val r, .int .i64 0, .int .i64 0]) /\ TreeS w' (fun k => w.heap.size <= k /\ k < w'.heap.size) v r /\ Below w.heap.size w w'
theorem readF_parts {s : ByteArray} {v : JV} (h : readF s = some v) : ∃ t ts q, Toks s 0 (t :: ts) /\ parV ((t :: ts).length + 1) 1 0 (t :: ts) = some (v, q, []) := by
 unfold readF at h
 split at h
 ·cases h
 ·rename_i l hl
  split at h
  ·rename_i v' q hv
   cases h
   cases l with
   | nil => simp [parV] at hv
   | cons t ts => exact ⟨t, ts, q, toksF_ok s _ _ _ hl, hv⟩
  ·cases h
theorem readS_any (w : World) (s : ByteArray) (v : JV) (hs : s.size <= 65536) (hv : readF s = some v) : Calls Tryz.prog 38 #[.string s] w (ReadRetS w v) := by
 obtain ⟨t, ts, q, htk, hpv⟩ := readF_parts hv
 have HTK : Hid (∀ W, Calls Tryz.prog 76 #[.string s] W (TksR W (t :: ts))) := fun W => tokens_any W s (t :: ts) hs htk
 have HNX : Hid (∀ W g en, RdS W g (t :: ts) en 0 -> Calls Tryz.prog 79 #[.pointer (some ⟨g, 0, none⟩)] W (NxtRet W g t ts en 0)) := fun W g en hr => next_any W g en 0 t ts hr
 have HVA : Hid (∀ W g en, RdS W g ts en 0 -> Calls Tryz.prog 78 #[.pointer (some ⟨g, 0, none⟩), t.val, .int .i64 1] W (ValR W g v [] en q)) := fun W g en hr => value_all _ _ (Nat.le_refl _) 1 0 t ts v q [] hpv W g en hr
 clear hv htk hpv
 have hZ0 : VAt (((w.alloc (.cells #[.int .i64 0, .int .i64 0, .string ⟨#[]⟩, .slice none 0 0, .slice none 0 0] 25)).alloc (.cells #[.int .i64 0] 3)).alloc (.cells #[.int .i64 0] 40)) w.heap.size RV.zero := heap_alloc_lt (by simp; omega) (heap_alloc_lt (by simp) (heap_alloc_at rfl))
 have hN1 : NumBk (((w.alloc (.cells #[.int .i64 0, .int .i64 0, .string ⟨#[]⟩, .slice none 0 0, .slice none 0 0] 25)).alloc (.cells #[.int .i64 0] 3)).alloc (.cells #[.int .i64 0] 40)) 3 (w.heap.size + 1) 0 := heap_alloc_lt (by simp) (heap_alloc_at (by simp))
 have hN2 : NumBk (((w.alloc (.cells #[.int .i64 0, .int .i64 0, .string ⟨#[]⟩, .slice none 0 0, .slice none 0 0] 25)).alloc (.cells #[.int .i64 0] 3)).alloc (.cells #[.int .i64 0] 40)) 40 (w.heap.size + 1 + 1) 0 := heap_alloc_at (by simp)
 have hB0 : Below w.heap.size w (((w.alloc (.cells #[.int .i64 0, .int .i64 0, .string ⟨#[]⟩, .slice none 0 0, .slice none 0 0] 25)).alloc (.cells #[.int .i64 0] 3)).alloc (.cells #[.int .i64 0] 40)) := (((Below.refl _ _).alloc (Nat.le_refl _) _).alloc (by simp) _).alloc (by simp; omega) _
 have hs0 : (((w.alloc (.cells #[.int .i64 0, .int .i64 0, .string ⟨#[]⟩, .slice none 0 0, .slice none 0 0] 25)).alloc (.cells #[.int .i64 0] 3)).alloc (.cells #[.int .i64 0] 40)).heap.size = w.heap.size + 3 := by simp
 have hmf : ∀ (fn : Fn) (first cap : Array Value) (w : World), (Instr.makeFunc fn first cap).run Tryz.prog w = .ok (.func fn first cap) w := fun _ _ _ _ => rfl
 go_enter_defers Tryz.func38, Tryz.ntmps38
 go_upto_region 1 with fail
 obtain ⟨W0, hW0⟩ : ∃ W, ((w.alloc (.cells #[.int .i64 0, .int .i64 0, .string ⟨#[]⟩, .slice none 0 0, .slice none 0 0] 25)).alloc (.cells #[.int .i64 0] 3)).alloc (.cells #[.int .i64 0] 40) = W := ⟨_, rfl⟩
 rw [hW0] at hZ0 hN1 hN2 hB0 hs0
 try rw [hW0]
 clear hW0
 have HZ0 := Lib.hid hZ0
 have HN1 := Lib.hid hN1
 have HN2 := Lib.hid hN2
 have HB0 := Lib.hid hB0
 have HS0 := Lib.hid hs0
 clear hZ0 hN1 hN2 hB0 hs0
 go_upto_region 2 with (go_at_call 76; refine (HTK.out _).mono ?_; rintro e w1 ⟨p1, n1, c1, rfl, hr1, hb1⟩; (have hN11 := HN1.out.keep (hb1.block _ HN1.out.lt)); (have hN21 := HN2.out.keep (hb1.block _ HN2.out.lt)); (have x1 := hN11.cell); (have x2 := hN21.cell); (have y1 := hN11.frozen); (have y2 := hN21.frozen))
 have hg1 := grownBy_set w1 (w.heap.size + 1) 0 (.int .i64 0)
 have hg2 := grownBy_set (w1.setCell ⟨w.heap.size + 1, 0, none⟩ (.int .i64 0)) (w.heap.size + 1 + 1) 0 (.int .i64 0)
 have hN12 := (hN11.set 0).keep (hg2.block _ (hN11.set 0).lt (by simp))
 have hN22 := (hN21.keep (hg1.block _ hN21.lt (by simp))).set 0
 have hZ1 := HZ0.out.keep (hb1.block _ HZ0.out.lt)
 have hZ2 := (hZ1.keep (hg1.block _ hZ1.lt (by simp)))
 have hZ3 := hZ2.keep (hg2.block _ hZ2.lt (by simp; omega))
 have hb2 : Below w.heap.size w ((w1.setCell ⟨w.heap.size + 1, 0, none⟩ (.int .i64 0)).setCell ⟨w.heap.size + 1 + 1, 0, none⟩ (.int .i64 0)) :=
  ((HB0.out.trans (hb1.mono HB0.out.size)).grown hg1 (by have := HS0.out; have := hb1.size; omega) (fun k e => by cases e; omega)).grown hg2 (by have := HS0.out; have := hb1.size; simp; omega) (fun k e => by cases e; omega)
 obtain ⟨w2, hw2⟩ : ∃ W, (w1.setCell ⟨w.heap.size + 1, 0, none⟩ (.int .i64 0)).setCell ⟨w.heap.size + 1 + 1, 0, none⟩ (.int .i64 0) = W := ⟨_, rfl⟩
 have hO2 := hr1.same (w' := (w1.setCell ⟨w.heap.size + 1, 0, none⟩ (.int .i64 0)).setCell ⟨w.heap.size + 1 + 1, 0, none⟩ (.int .i64 0)) (fun k e => by
  have h3 := hr1.lt k e
  have h4 := HS0.out
  exact (hg2.block k (by simp; omega) (fun e2 => by cases e2; omega)).trans (hg1.block k h3.2 (fun e2 => by cases e2; omega)))
 rw [hw2] at hN12 hN22 hZ3 hb2 hO2
 try rw [hw2]
 have HO2 := Lib.hid hO2
 have HN3 := Lib.hid hN12
 have HN4 := Lib.hid hN22
 have HZ3 := Lib.hid hZ3
 have HB2 := Lib.hid hb2
 have a2 := hN22.cell
 clear hw2 hg1 hg2 hN11 hN21 hZ1 hZ2 x1 x2 y1 y2 hr1 hb1 hN12 hN22 hZ3 hb2 hO2
 go_upto_region 6 with fail
 have hR5 : RdS (w2.alloc (.cells #[.slice p1 n1 c1, .int .i64 s.size, .int .i64 0] 112)) w2.heap.size (t :: ts) s.size 0 := ⟨p1, n1, c1, heap_alloc_at rfl, (HO2.out.rd codecTok).below ((Below.refl _ _).alloc (Nat.le_refl _) _) (Nat.le_refl _)⟩
 have hZ5 := HZ3.out.keep (W' := w2.alloc (.cells #[.slice p1 n1 c1, .int .i64 s.size, .int .i64 0] 112)) (Below.heap_alloc _ _ _ HZ3.out.lt)
 have hN5 := HN3.out.keep (W' := w2.alloc (.cells #[.slice p1 n1 c1, .int .i64 s.size, .int .i64 0] 112)) (Below.heap_alloc _ _ _ HN3.out.lt)
 have hN6 := HN4.out.keep (W' := w2.alloc (.cells #[.slice p1 n1 c1, .int .i64 s.size, .int .i64 0] 112)) (Below.heap_alloc _ _ _ HN4.out.lt)
 have hB5 := HB2.out.alloc HB2.out.size (.cells #[.slice p1 n1 c1, .int .i64 s.size, .int .i64 0] 112)
 have hlt5 : w.heap.size + 2 < w2.heap.size := HN4.out.lt
 obtain ⟨g, hg⟩ : ∃ g, w2.heap.size = g := ⟨_, rfl⟩
 obtain ⟨w3, hw3⟩ : ∃ W, w2.alloc (.cells #[.slice p1 n1 c1, .int .i64 s.size, .int .i64 0] 112) = W := ⟨_, rfl⟩
 rw [hw3, hg] at hR5
 rw [hw3] at hZ5 hN5 hN6 hB5
 rw [hg] at hlt5
 try rw [hw3]
 try rw [hg]
 have HR5 := Lib.hid hR5
 have HZ5 := Lib.hid hZ5
 have HN5 := Lib.hid hN5
 have HN6 := Lib.hid hN6
 have HB5 := Lib.hid hB5
 clear hw3 hg hR5 hZ5 hN5 hN6 hB5 HO2 HN3 HN4 HZ3 HB2 a2
 obtain ⟨tk, tn, tS, tp⟩ := t
 dsimp only [Tok.val, NxtRet] at *
 go_upto_region 7 with (first
  | (go_at_call 79; refine (HNX.out _ _ _ HR5.out).mono ?_; rintro e w4 ⟨rfl, hr4, hg4⟩)
  | (go_at_call 78; refine (HVA.out _ _ _ hr4).mono ?_; rintro e w5 ⟨rv, rfl, ht5, hr5, hg5⟩; obtain ⟨vk, vn, vs, vpl, vnl, vcl, vpm, vnm, vcm⟩ := rv; (have hg45 := hg4.trans hg5); (have hZ6 := HZ5.out.keep (hg45.block _ HZ5.out.lt (by simp; omega))); (obtain ⟨z0, z1, z2, z3, z4⟩ := hZ6.cells5); (have y0 := hZ6.frozen 0); (have y1 := hZ6.frozen 1); (have y2 := hZ6.frozen 2); (have y3 := hZ6.frozen 3); (have y4 := hZ6.frozen 4)))
 have hv6 := hZ6.stored ⟨vk, vn, vs, vpl, vnl, vcl, vpm, vnm, vcm⟩
 have hg6 := grownBy_set5 w5 w.heap.size ⟨vk, vn, vs, vpl, vnl, vcl, vpm, vnm, vcm⟩
 have hlt4 := HN6.out.lt
 have hN7 := ((HN5.out.keep (hg45.block _ HN5.out.lt (by simp; omega)))).keep (hg6.block (w.heap.size + 1) (Nat.lt_of_lt_of_le HN5.out.lt hg45.size) (by simp))
 have hN8 := ((HN6.out.keep (hg45.block _ HN6.out.lt (by simp; omega)))).keep (hg6.block (w.heap.size + 1 + 1) (Nat.lt_of_lt_of_le HN6.out.lt hg45.size) (by simp; omega))
 have hr6 : ∃ p c, (((((w5.setCell ⟨w.heap.size, 0, none⟩ (.int .i64 (⟨vk, vn, vs, vpl, vnl, vcl, vpm, vnm, vcm⟩ : RV).k)).setCell ⟨w.heap.size, 1, none⟩ (.int .i64 (⟨vk, vn, vs, vpl, vnl, vcl, vpm, vnm, vcm⟩ : RV).n)).setCell ⟨w.heap.size, 2, none⟩ (.string (⟨vk, vn, vs, vpl, vnl, vcl, vpm, vnm, vcm⟩ : RV).s)).setCell ⟨w.heap.size, 3, none⟩ (.slice (⟨vk, vn, vs, vpl, vnl, vcl, vpm, vnm, vcm⟩ : RV).pl (⟨vk, vn, vs, vpl, vnl, vcl, vpm, vnm, vcm⟩ : RV).nl (⟨vk, vn, vs, vpl, vnl, vcl, vpm, vnm, vcm⟩ : RV).cl)).setCell ⟨w.heap.size, 4, none⟩ (.slice (⟨vk, vn, vs, vpl, vnl, vcl, vpm, vnm, vcm⟩ : RV).pm (⟨vk, vn, vs, vpl, vnl, vcl, vpm, vnm, vcm⟩ : RV).nm (⟨vk, vn, vs, vpl, vnl, vcl, vpm, vnm, vcm⟩ : RV).cm)).cell? ⟨g, 0, none⟩ = some (.slice p 0 c) := by
  obtain ⟨p, n, c, h1, h2⟩ := hr5.ex
  have hn := rd_nlen h2
  have h3 := h1.keep (hg6.block g h1.lt (by simp; omega))
  have h4 := h3.cell 0 rfl
  rw [hn] at h4
  exact ⟨p, c, h4⟩
 have ht6 := ht5.same (fun k hk => hg6.block k hk.2 (fun e => by cases e; have := hk.1; have := hg4.size; omega))
 have hb6 : Below w.heap.size w (((((w5.setCell ⟨w.heap.size, 0, none⟩ (.int .i64 (⟨vk, vn, vs, vpl, vnl, vcl, vpm, vnm, vcm⟩ : RV).k)).setCell ⟨w.heap.size, 1, none⟩ (.int .i64 (⟨vk, vn, vs, vpl, vnl, vcl, vpm, vnm, vcm⟩ : RV).n)).setCell ⟨w.heap.size, 2, none⟩ (.string (⟨vk, vn, vs, vpl, vnl, vcl, vpm, vnm, vcm⟩ : RV).s)).setCell ⟨w.heap.size, 3, none⟩ (.slice (⟨vk, vn, vs, vpl, vnl, vcl, vpm, vnm, vcm⟩ : RV).pl (⟨vk, vn, vs, vpl, vnl, vcl, vpm, vnm, vcm⟩ : RV).nl (⟨vk, vn, vs, vpl, vnl, vcl, vpm, vnm, vcm⟩ : RV).cl)).setCell ⟨w.heap.size, 4, none⟩ (.slice (⟨vk, vn, vs, vpl, vnl, vcl, vpm, vnm, vcm⟩ : RV).pm (⟨vk, vn, vs, vpl, vnl, vcl, vpm, vnm, vcm⟩ : RV).nm (⟨vk, vn, vs, vpl, vnl, vcl, vpm, vnm, vcm⟩ : RV).cm)) := (HB5.out.grown hg45 (by omega) (fun k e => by cases e; omega)).grown hg6 (by have := hg45.size; omega) (fun k e => by cases e; omega)
 have hz6 : (((((w5.setCell ⟨w.heap.size, 0, none⟩ (.int .i64 (⟨vk, vn, vs, vpl, vnl, vcl, vpm, vnm, vcm⟩ : RV).k)).setCell ⟨w.heap.size, 1, none⟩ (.int .i64 (⟨vk, vn, vs, vpl, vnl, vcl, vpm, vnm, vcm⟩ : RV).n)).setCell ⟨w.heap.size, 2, none⟩ (.string (⟨vk, vn, vs, vpl, vnl, vcl, vpm, vnm, vcm⟩ : RV).s)).setCell ⟨w.heap.size, 3, none⟩ (.slice (⟨vk, vn, vs, vpl, vnl, vcl, vpm, vnm, vcm⟩ : RV).pl (⟨vk, vn, vs, vpl, vnl, vcl, vpm, vnm, vcm⟩ : RV).nl (⟨vk, vn, vs, vpl, vnl, vcl, vpm, vnm, vcm⟩ : RV).cl)).setCell ⟨w.heap.size, 4, none⟩ (.slice (⟨vk, vn, vs, vpl, vnl, vcl, vpm, vnm, vcm⟩ : RV).pm (⟨vk, vn, vs, vpl, vnl, vcl, vpm, vnm, vcm⟩ : RV).nm (⟨vk, vn, vs, vpl, vnl, vcl, vpm, vnm, vcm⟩ : RV).cm)).heap.size = w5.heap.size := by simp
 dsimp only at hv6 hr6 hb6 hN7 hN8 ht6 hz6
 obtain ⟨w6, hw6⟩ : ∃ W, (((((w5.setCell ⟨w.heap.size, 0, none⟩ (.int .i64 (⟨vk, vn, vs, vpl, vnl, vcl, vpm, vnm, vcm⟩ : RV).k)).setCell ⟨w.heap.size, 1, none⟩ (.int .i64 (⟨vk, vn, vs, vpl, vnl, vcl, vpm, vnm, vcm⟩ : RV).n)).setCell ⟨w.heap.size, 2, none⟩ (.string (⟨vk, vn, vs, vpl, vnl, vcl, vpm, vnm, vcm⟩ : RV).s)).setCell ⟨w.heap.size, 3, none⟩ (.slice (⟨vk, vn, vs, vpl, vnl, vcl, vpm, vnm, vcm⟩ : RV).pl (⟨vk, vn, vs, vpl, vnl, vcl, vpm, vnm, vcm⟩ : RV).nl (⟨vk, vn, vs, vpl, vnl, vcl, vpm, vnm, vcm⟩ : RV).cl)).setCell ⟨w.heap.size, 4, none⟩ (.slice (⟨vk, vn, vs, vpl, vnl, vcl, vpm, vnm, vcm⟩ : RV).pm (⟨vk, vn, vs, vpl, vnl, vcl, vpm, vnm, vcm⟩ : RV).nm (⟨vk, vn, vs, vpl, vnl, vcl, vpm, vnm, vcm⟩ : RV).cm)) = W := ⟨_, rfl⟩
 dsimp only at hw6
 rw [hw6] at hv6 hr6 hb6 hN7 hN8 ht6 hz6
 try rw [hw6]
 clear z0 z1 z2 z3 z4 y0 y1 y2 y3 y4 hw6
 obtain ⟨p6, c6, c0⟩ := hr6
 obtain ⟨v0, v1, v2, v3, v4⟩ := hv6.cells5
 have y0 := hv6.frozen 0
 have y1 := hv6.frozen 1
 have y2 := hv6.frozen 2
 have y3 := hv6.frozen 3
 have y4 := hv6.frozen 4
 have x1 := hN7.cell
 have x2 := hN8.cell
 have y11 := hN7.frozen
 have y12 := hN8.frozen
 dsimp only at v0 v1 v2 v3 v4
 have hg7 := grownBy_set5 w6 w.heap.size (⟨vk, vn, vs, vpl, vnl, vcl, vpm, vnm, vcm⟩ : RV)
 have hg8 := grownBy_set (((((w6.setCell ⟨w.heap.size, 0, none⟩ (.int .i64 (⟨vk, vn, vs, vpl, vnl, vcl, vpm, vnm, vcm⟩ : RV).k)).setCell ⟨w.heap.size, 1, none⟩ (.int .i64 (⟨vk, vn, vs, vpl, vnl, vcl, vpm, vnm, vcm⟩ : RV).n)).setCell ⟨w.heap.size, 2, none⟩ (.string (⟨vk, vn, vs, vpl, vnl, vcl, vpm, vnm, vcm⟩ : RV).s)).setCell ⟨w.heap.size, 3, none⟩ (.slice (⟨vk, vn, vs, vpl, vnl, vcl, vpm, vnm, vcm⟩ : RV).pl (⟨vk, vn, vs, vpl, vnl, vcl, vpm, vnm, vcm⟩ : RV).nl (⟨vk, vn, vs, vpl, vnl, vcl, vpm, vnm, vcm⟩ : RV).cl)).setCell ⟨w.heap.size, 4, none⟩ (.slice (⟨vk, vn, vs, vpl, vnl, vcl, vpm, vnm, vcm⟩ : RV).pm (⟨vk, vn, vs, vpl, vnl, vcl, vpm, vnm, vcm⟩ : RV).nm (⟨vk, vn, vs, vpl, vnl, vcl, vpm, vnm, vcm⟩ : RV).cm)) (w.heap.size + 1) 0 (.int .i64 0)
 have hg9 := grownBy_set ((((((w6.setCell ⟨w.heap.size, 0, none⟩ (.int .i64 (⟨vk, vn, vs, vpl, vnl, vcl, vpm, vnm, vcm⟩ : RV).k)).setCell ⟨w.heap.size, 1, none⟩ (.int .i64 (⟨vk, vn, vs, vpl, vnl, vcl, vpm, vnm, vcm⟩ : RV).n)).setCell ⟨w.heap.size, 2, none⟩ (.string (⟨vk, vn, vs, vpl, vnl, vcl, vpm, vnm, vcm⟩ : RV).s)).setCell ⟨w.heap.size, 3, none⟩ (.slice (⟨vk, vn, vs, vpl, vnl, vcl, vpm, vnm, vcm⟩ : RV).pl (⟨vk, vn, vs, vpl, vnl, vcl, vpm, vnm, vcm⟩ : RV).nl (⟨vk, vn, vs, vpl, vnl, vcl, vpm, vnm, vcm⟩ : RV).cl)).setCell ⟨w.heap.size, 4, none⟩ (.slice (⟨vk, vn, vs, vpl, vnl, vcl, vpm, vnm, vcm⟩ : RV).pm (⟨vk, vn, vs, vpl, vnl, vcl, vpm, vnm, vcm⟩ : RV).nm (⟨vk, vn, vs, vpl, vnl, vcl, vpm, vnm, vcm⟩ : RV).cm)).setCell ⟨w.heap.size + 1, 0, none⟩ (.int .i64 0)) (w.heap.size + 1 + 1) 0 (.int .i64 0)
 have hv7 := ((hv6.stored (⟨vk, vn, vs, vpl, vnl, vcl, vpm, vnm, vcm⟩ : RV)).keep (hg8.block _ (hv6.stored (⟨vk, vn, vs, vpl, vnl, vcl, vpm, vnm, vcm⟩ : RV)).lt (by simp)))
 have hv9 := hv7.keep (hg9.block _ hv7.lt (by simp; omega))
 have hN9 := (((hN7.keep (hg7.block _ hN7.lt (by simp))).set 0))
 have hN9' := hN9.keep (hg9.block _ hN9.lt (by simp))
 have hN10 := ((hN8.keep (hg7.block _ hN8.lt (by simp; omega))).keep (hg8.block _ (hN8.keep (hg7.block _ hN8.lt (by simp; omega))).lt (by simp))).set 0
 have hb9 : Below w.heap.size w (((((((w6.setCell ⟨w.heap.size, 0, none⟩ (.int .i64 (⟨vk, vn, vs, vpl, vnl, vcl, vpm, vnm, vcm⟩ : RV).k)).setCell ⟨w.heap.size, 1, none⟩ (.int .i64 (⟨vk, vn, vs, vpl, vnl, vcl, vpm, vnm, vcm⟩ : RV).n)).setCell ⟨w.heap.size, 2, none⟩ (.string (⟨vk, vn, vs, vpl, vnl, vcl, vpm, vnm, vcm⟩ : RV).s)).setCell ⟨w.heap.size, 3, none⟩ (.slice (⟨vk, vn, vs, vpl, vnl, vcl, vpm, vnm, vcm⟩ : RV).pl (⟨vk, vn, vs, vpl, vnl, vcl, vpm, vnm, vcm⟩ : RV).nl (⟨vk, vn, vs, vpl, vnl, vcl, vpm, vnm, vcm⟩ : RV).cl)).setCell ⟨w.heap.size, 4, none⟩ (.slice (⟨vk, vn, vs, vpl, vnl, vcl, vpm, vnm, vcm⟩ : RV).pm (⟨vk, vn, vs, vpl, vnl, vcl, vpm, vnm, vcm⟩ : RV).nm (⟨vk, vn, vs, vpl, vnl, vcl, vpm, vnm, vcm⟩ : RV).cm)).setCell ⟨w.heap.size + 1, 0, none⟩ (.int .i64 0)).setCell ⟨w.heap.size + 1 + 1, 0, none⟩ (.int .i64 0)) := ((hb6.grown hg7 (by have := hb6.size; omega) (fun k e => by cases e; exact Nat.le_refl _)).grown hg8 (by have := hb6.size; simp; omega) (fun k e => by cases e; omega)).grown hg9 (by have := hb6.size; simp; omega) (fun k e => by cases e; omega)
 have hsz : w6.heap.size <= (((((((w6.setCell ⟨w.heap.size, 0, none⟩ (.int .i64 (⟨vk, vn, vs, vpl, vnl, vcl, vpm, vnm, vcm⟩ : RV).k)).setCell ⟨w.heap.size, 1, none⟩ (.int .i64 (⟨vk, vn, vs, vpl, vnl, vcl, vpm, vnm, vcm⟩ : RV).n)).setCell ⟨w.heap.size, 2, none⟩ (.string (⟨vk, vn, vs, vpl, vnl, vcl, vpm, vnm, vcm⟩ : RV).s)).setCell ⟨w.heap.size, 3, none⟩ (.slice (⟨vk, vn, vs, vpl, vnl, vcl, vpm, vnm, vcm⟩ : RV).pl (⟨vk, vn, vs, vpl, vnl, vcl, vpm, vnm, vcm⟩ : RV).nl (⟨vk, vn, vs, vpl, vnl, vcl, vpm, vnm, vcm⟩ : RV).cl)).setCell ⟨w.heap.size, 4, none⟩ (.slice (⟨vk, vn, vs, vpl, vnl, vcl, vpm, vnm, vcm⟩ : RV).pm (⟨vk, vn, vs, vpl, vnl, vcl, vpm, vnm, vcm⟩ : RV).nm (⟨vk, vn, vs, vpl, vnl, vcl, vpm, vnm, vcm⟩ : RV).cm)).setCell ⟨w.heap.size + 1, 0, none⟩ (.int .i64 0)).setCell ⟨w.heap.size + 1 + 1, 0, none⟩ (.int .i64 0)).heap.size := by simp
 have hgn := hg4.size
 have ht9 := ht6.same (w' := (((((((w6.setCell ⟨w.heap.size, 0, none⟩ (.int .i64 (⟨vk, vn, vs, vpl, vnl, vcl, vpm, vnm, vcm⟩ : RV).k)).setCell ⟨w.heap.size, 1, none⟩ (.int .i64 (⟨vk, vn, vs, vpl, vnl, vcl, vpm, vnm, vcm⟩ : RV).n)).setCell ⟨w.heap.size, 2, none⟩ (.string (⟨vk, vn, vs, vpl, vnl, vcl, vpm, vnm, vcm⟩ : RV).s)).setCell ⟨w.heap.size, 3, none⟩ (.slice (⟨vk, vn, vs, vpl, vnl, vcl, vpm, vnm, vcm⟩ : RV).pl (⟨vk, vn, vs, vpl, vnl, vcl, vpm, vnm, vcm⟩ : RV).nl (⟨vk, vn, vs, vpl, vnl, vcl, vpm, vnm, vcm⟩ : RV).cl)).setCell ⟨w.heap.size, 4, none⟩ (.slice (⟨vk, vn, vs, vpl, vnl, vcl, vpm, vnm, vcm⟩ : RV).pm (⟨vk, vn, vs, vpl, vnl, vcl, vpm, vnm, vcm⟩ : RV).nm (⟨vk, vn, vs, vpl, vnl, vcl, vpm, vnm, vcm⟩ : RV).cm)).setCell ⟨w.heap.size + 1, 0, none⟩ (.int .i64 0)).setCell ⟨w.heap.size + 1 + 1, 0, none⟩ (.int .i64 0))) (fun k hk => by
  have := hk.1
  have := hk.2
  exact ((hg9.block k (by simp; omega) (fun e => by cases e; omega)).trans (hg8.block k (by simp; omega) (fun e => by cases e; omega))).trans (hg7.block k (by omega) (fun e => by cases e; omega)))
 have hto : TreeOf (((((((w6.setCell ⟨w.heap.size, 0, none⟩ (.int .i64 (⟨vk, vn, vs, vpl, vnl, vcl, vpm, vnm, vcm⟩ : RV).k)).setCell ⟨w.heap.size, 1, none⟩ (.int .i64 (⟨vk, vn, vs, vpl, vnl, vcl, vpm, vnm, vcm⟩ : RV).n)).setCell ⟨w.heap.size, 2, none⟩ (.string (⟨vk, vn, vs, vpl, vnl, vcl, vpm, vnm, vcm⟩ : RV).s)).setCell ⟨w.heap.size, 3, none⟩ (.slice (⟨vk, vn, vs, vpl, vnl, vcl, vpm, vnm, vcm⟩ : RV).pl (⟨vk, vn, vs, vpl, vnl, vcl, vpm, vnm, vcm⟩ : RV).nl (⟨vk, vn, vs, vpl, vnl, vcl, vpm, vnm, vcm⟩ : RV).cl)).setCell ⟨w.heap.size, 4, none⟩ (.slice (⟨vk, vn, vs, vpl, vnl, vcl, vpm, vnm, vcm⟩ : RV).pm (⟨vk, vn, vs, vpl, vnl, vcl, vpm, vnm, vcm⟩ : RV).nm (⟨vk, vn, vs, vpl, vnl, vcl, vpm, vnm, vcm⟩ : RV).cm)).setCell ⟨w.heap.size + 1, 0, none⟩ (.int .i64 0)).setCell ⟨w.heap.size + 1 + 1, 0, none⟩ (.int .i64 0)) (((((((w6.setCell ⟨w.heap.size, 0, none⟩ (.int .i64 (⟨vk, vn, vs, vpl, vnl, vcl, vpm, vnm, vcm⟩ : RV).k)).setCell ⟨w.heap.size, 1, none⟩ (.int .i64 (⟨vk, vn, vs, vpl, vnl, vcl, vpm, vnm, vcm⟩ : RV).n)).setCell ⟨w.heap.size, 2, none⟩ (.string (⟨vk, vn, vs, vpl, vnl, vcl, vpm, vnm, vcm⟩ : RV).s)).setCell ⟨w.heap.size, 3, none⟩ (.slice (⟨vk, vn, vs, vpl, vnl, vcl, vpm, vnm, vcm⟩ : RV).pl (⟨vk, vn, vs, vpl, vnl, vcl, vpm, vnm, vcm⟩ : RV).nl (⟨vk, vn, vs, vpl, vnl, vcl, vpm, vnm, vcm⟩ : RV).cl)).setCell ⟨w.heap.size, 4, none⟩ (.slice (⟨vk, vn, vs, vpl, vnl, vcl, vpm, vnm, vcm⟩ : RV).pm (⟨vk, vn, vs, vpl, vnl, vcl, vpm, vnm, vcm⟩ : RV).nm (⟨vk, vn, vs, vpl, vnl, vcl, vpm, vnm, vcm⟩ : RV).cm)).setCell ⟨w.heap.size + 1, 0, none⟩ (.int .i64 0)).setCell ⟨w.heap.size + 1 + 1, 0, none⟩ (.int .i64 0)).heap.size v (⟨vk, vn, vs, vpl, vnl, vcl, vpm, vnm, vcm⟩ : RV) := ht9.tree (fun k hk => Nat.lt_of_lt_of_le (by have := hk.2; omega) hsz)
 have hts : TreeS (((((((w6.setCell ⟨w.heap.size, 0, none⟩ (.int .i64 (⟨vk, vn, vs, vpl, vnl, vcl, vpm, vnm, vcm⟩ : RV).k)).setCell ⟨w.heap.size, 1, none⟩ (.int .i64 (⟨vk, vn, vs, vpl, vnl, vcl, vpm, vnm, vcm⟩ : RV).n)).setCell ⟨w.heap.size, 2, none⟩ (.string (⟨vk, vn, vs, vpl, vnl, vcl, vpm, vnm, vcm⟩ : RV).s)).setCell ⟨w.heap.size, 3, none⟩ (.slice (⟨vk, vn, vs, vpl, vnl, vcl, vpm, vnm, vcm⟩ : RV).pl (⟨vk, vn, vs, vpl, vnl, vcl, vpm, vnm, vcm⟩ : RV).nl (⟨vk, vn, vs, vpl, vnl, vcl, vpm, vnm, vcm⟩ : RV).cl)).setCell ⟨w.heap.size, 4, none⟩ (.slice (⟨vk, vn, vs, vpl, vnl, vcl, vpm, vnm, vcm⟩ : RV).pm (⟨vk, vn, vs, vpl, vnl, vcl, vpm, vnm, vcm⟩ : RV).nm (⟨vk, vn, vs, vpl, vnl, vcl, vpm, vnm, vcm⟩ : RV).cm)).setCell ⟨w.heap.size + 1, 0, none⟩ (.int .i64 0)).setCell ⟨w.heap.size + 1 + 1, 0, none⟩ (.int .i64 0)) (fun k => w.heap.size <= k /\ k < (((((((w6.setCell ⟨w.heap.size, 0, none⟩ (.int .i64 (⟨vk, vn, vs, vpl, vnl, vcl, vpm, vnm, vcm⟩ : RV).k)).setCell ⟨w.heap.size, 1, none⟩ (.int .i64 (⟨vk, vn, vs, vpl, vnl, vcl, vpm, vnm, vcm⟩ : RV).n)).setCell ⟨w.heap.size, 2, none⟩ (.string (⟨vk, vn, vs, vpl, vnl, vcl, vpm, vnm, vcm⟩ : RV).s)).setCell ⟨w.heap.size, 3, none⟩ (.slice (⟨vk, vn, vs, vpl, vnl, vcl, vpm, vnm, vcm⟩ : RV).pl (⟨vk, vn, vs, vpl, vnl, vcl, vpm, vnm, vcm⟩ : RV).nl (⟨vk, vn, vs, vpl, vnl, vcl, vpm, vnm, vcm⟩ : RV).cl)).setCell ⟨w.heap.size, 4, none⟩ (.slice (⟨vk, vn, vs, vpl, vnl, vcl, vpm, vnm, vcm⟩ : RV).pm (⟨vk, vn, vs, vpl, vnl, vcl, vpm, vnm, vcm⟩ : RV).nm (⟨vk, vn, vs, vpl, vnl, vcl, vpm, vnm, vcm⟩ : RV).cm)).setCell ⟨w.heap.size + 1, 0, none⟩ (.int .i64 0)).setCell ⟨w.heap.size + 1 + 1, 0, none⟩ (.int .i64 0)).heap.size) v (⟨vk, vn, vs, vpl, vnl, vcl, vpm, vnm, vcm⟩ : RV) := ht9.mono (fun k hk => ⟨by have := hk.1; omega, Nat.lt_of_lt_of_le (by have := hk.2; omega) hsz⟩)
 have HTO := Lib.hid hts
 have HB9 := Lib.hid hb9
 have HV9 := Lib.hid hv9
 have HN9 := Lib.hid hN9'
 have HN10 := Lib.hid hN10
 dsimp only at HTO HB9 HV9 HN9 HN10
 clear hto hts hb9 hv9 hN9 hN9' hN10 hg7 hg8 hg9 hv7 hsz hgn ht9 ht6 hb6 hv6 hN7 hN8 hg4 hg5 hg45 hg6 ht5 hr5 hr4
 go_wp2_with fail
 refine leaves_cons (f := 77) (args := #[.pointer (some ⟨w.heap.size, 0, none⟩), .pointer (some ⟨w.heap.size + 1, 0, none⟩), .pointer (some ⟨w.heap.size + 1 + 1, 0, none⟩)]) (by simp) (by simp [go_sem]) ?_
 refine (readCatch_idle _ _ _ _).mono ?_
 rintro e u' w'' ⟨rfl, rfl, rfl⟩
 obtain ⟨W9, hW9⟩ : ∃ W, ((((((w6.setCell ⟨w.heap.size, 0, none⟩ (.int .i64 vk)).setCell ⟨w.heap.size, 1, none⟩ (.int .i64 vn)).setCell ⟨w.heap.size, 2, none⟩ (.string vs)).setCell ⟨w.heap.size, 3, none⟩ (.slice vpl vnl vcl)).setCell ⟨w.heap.size, 4, none⟩ (.slice vpm vnm vcm)).setCell ⟨w.heap.size + 1, 0, none⟩ (.int .i64 0)).setCell ⟨w.heap.size + 1 + 1, 0, none⟩ (.int .i64 0) = W := ⟨_, rfl⟩
 rw [hW9] at HTO HB9 HV9 HN9 HN10
 rw [hW9]
 clear hW9 v0 v1 v2 v3 v4 y0 y1 y2 y3 y4 x1 x2 y11 y12 c0
 obtain ⟨u0, u1, u2, u3, u4⟩ := HV9.out.cells5
 dsimp only at u0 u1 u2 u3 u4
 have x1 := HN9.out.cell
 have x2 := HN10.out.cell
 have HR : ReadRetS w v (.returned (.tuple #[RV.val (⟨vk, vn, vs, vpl, vnl, vcl, vpm, vnm, vcm⟩ : RV), .int .i64 0, .int .i64 0])) W9 := ⟨_, rfl, HTO.out, HB9.out⟩
 simp only [RV.val] at HR
 simp [Leaves, settle, results, Tryz.results38, go_sem, u0, u1, u2, u3, u4, x1, x2]
 exact HR
theorem read_any (w : World) (s : ByteArray) (v : JV) (hs : s.size <= 65536) (hv : readF s = some v) : Calls Tryz.prog 38 #[.string s] w (ReadRet w v) :=
 (readS_any w s v hs hv).mono (fun e w' h => by
  obtain ⟨r, h1, h2, h3⟩ := h
  exact ⟨r, h1, h2.tree (fun k hk => hk.2), h3⟩)
end
section
open Go Go.RowKit
def badU (s : ByteArray) : Nat -> Nat -> Nat
 | 0, a => a
 | f + 1, a => if a < s.size /\ (oneU s a).2 ≠ 0 then badU s f (a + (oneU s a).2) else a
def badF (s : ByteArray) : Nat := badU s s.size 0
theorem badU_le (s : ByteArray) : ∀ f a, a <= s.size -> badU s f a <= s.size
 | 0, a, h => h
 | f + 1, a, h => by
   unfold badU
   split
   ·exact badU_le s f _ (oneU_le s a h).1
   ·exact h
theorem badF_le (s : ByteArray) : badF s <= s.size := badU_le s _ _ (Nat.zero_le _)
theorem badU_yes {s : ByteArray} {f a n : Nat} {p : Int} (ha : a < s.size) (ho : oneU s a = (p, n)) (hn : n ≠ 0) : badU s (f + 1) a = badU s f (a + n) := by
 rw [badU, if_pos ⟨ha, by rw [ho]; exact hn⟩, ho]
theorem badU_no {s : ByteArray} {f a : Nat} {p : Int} (ho : oneU s a = (p, 0)) : badU s f a = a := by
 cases f with
 | zero => rfl
 | succ f => rw [badU, if_neg (by rw [ho]; simp)]
theorem badU_end {s : ByteArray} {f : Nat} : badU s f s.size = s.size := by
 cases f with
 | zero => rfl
 | succ f => rw [badU, if_neg (by simp)]
theorem ret_int1 {k : IntKind} {a b : Int} (h : a = b) : Ending.returned (.int k a) = .returned (.int k b) := by rw [h]
theorem bad_any (s : ByteArray) (w : World) (hs : s.size <= maxLen) :
 Calls Tryz.prog 135 #[.string s] w fun e w' => e = .returned (.int .i64 (badF s : Nat)) /\ w = w' := by
 have HS := Lib.hid hs
 unfold maxLen at hs
 go_enter Tryz.func135, Tryz.ntmps135
 go_wp2_with fail
 go_loop [3] (fun av => ∃ (a f : Nat), a <= s.size /\ s.size <= a + f /\ av = .int .i64 a /\ Hid (badU s f a = badF s)) (fun av => s.size - (intOf av).toNat)
 case atStart => exact ⟨0, s.size, Nat.zero_le _, by omega, rfl, rfl⟩
 case round =>
  obtain ⟨a, f, ha, hf, rfl, hb⟩ := hrel
  by_cases hlt : a < s.size
  ·have HC : Hid (∀ w : World, Calls Tryz.prog 152 #[.string s, .int .i64 a] w fun e w' => e = .returned (.tuple #[.int .i32 (oneU s a).1, .int .i64 (oneU s a).2]) /\ w = w') := fun w => one_any s a w HS.out hlt
   have hle := oneU_le s a ha
   obtain ⟨f, rfl⟩ : ∃ f', f = f' + 1 := ⟨f - 1, by omega⟩
   unfold Hid at HC
   generalize ho : oneU s a = o at HC hle
   obtain ⟨p, n⟩ := o
   dsimp only at HC hle
   have HC := Lib.hid HC
   by_cases h0 : n = 0
   ·subst h0
    have HR : Hid (a = badF s) := by have h := hb.out; rw [badU_no ho] at h; exact h
    clear ho
    go_wp2_with (go_at_call 152; refine (HC.out _).mono ?_; rintro e w' ⟨rfl, rfl⟩)
    go_ret
    exact ⟨ret_int1 (by rw [<- HR.out]), rfl⟩
   ·have HR : Hid (badU s f (a + n) = badF s) := by have h := hb.out; rw [badU_yes hlt ho h0] at h; exact h
    have q0 : ((n : Int) == 0) = false := by simp; omega
    clear ho
    go_wp2_with (go_at_call 152; refine (HC.out _).mono ?_; rintro e w' ⟨rfl, rfl⟩)
    exact ⟨⟨a + n, f, hle.1, by omega, by go_num, HR⟩, by simp [intOf]; omega⟩
  ·obtain rfl : a = s.size := by omega
   have HR : Hid (s.size = badF s) := by have h := hb.out; rw [badU_end] at h; exact h
   go_wp2_with fail
   go_ret
   exact ⟨ret_int1 (by rw [<- HR.out]), rfl⟩
end
section
open Go Go.RowKit Go.OpenShut
def escN (c : Nat) : Nat := if c = 34 \/ c = 92 then c else if c = 8 then 98 else if c = 9 then 116 else if c = 10 then 110 else if c = 12 then 102 else if c = 13 then 114 else 0
def hexD (n : Nat) : UInt8 := if n < 10 then UInt8.ofNat (48 + n) else UInt8.ofNat (87 + n)
theorem and15 {n : Nat} (h : n < 32) : bits BinOp.and IntKind.u8 (n : Int) 15 = (n : Int) % 16 :=
 (by decide +kernel : ∀ m : Fin 32, bits BinOp.and IntKind.u8 ((m.val : Nat) : Int) 15 = ((m.val : Nat) : Int) % 16) ⟨n, h⟩
theorem hex_get (n : Nat) (h : n < 16) (h' : n < (⟨#[48, 49, 50, 51, 52, 53, 54, 55, 56, 57, 97, 98, 99, 100, 101, 102]⟩ : ByteArray).size) : (⟨#[48, 49, 50, 51, 52, 53, 54, 55, 56, 57, 97, 98, 99, 100, 101, 102]⟩ : ByteArray)[n]'h' = hexD n :=
 (by decide +kernel : ∀ m : Fin 16, (⟨#[48, 49, 50, 51, 52, 53, 54, 55, 56, 57, 97, 98, 99, 100, 101, 102]⟩ : ByteArray)[m.val]'m.isLt = hexD m.val) ⟨n, h⟩
def escL (c : UInt8) : List UInt8 := if escN c.toNat ≠ 0 then [92, UInt8.ofNat (escN c.toNat)] else if c.toNat < 32 then [92, 117, 48, 48, hexD (c.toNat / 16), hexD (c.toNat % 16)] else [c]
def quoM (l : List UInt8) : List UInt8 := l.flatMap escL
def quoL (s : ByteArray) : List UInt8 := if badF s = s.size then 34 :: quoM s.data.toList ++ [34] else []
theorem escL_len (c : UInt8) : (escL c).length <= 6 := by unfold escL; split <;> (try split) <;> simp
theorem quoM_len (l : List UInt8) : (quoM l).length <= 6 * l.length := by
 induction l with
 | nil => simp [quoM]
 | cons c l ih =>
   unfold quoM at ih ⊢
   rw [List.flatMap_cons, List.length_append, List.length_cons]
   have := escL_len c
   omega
theorem quoM_take {l : List UInt8} {k : Nat} {c : UInt8} (h : l[k]? = some c) : quoM (l.take (k + 1)) = quoM (l.take k) ++ escL c := by
 unfold quoM
 rw [List.take_add_one, h]
 simp
def QuoRet (w : World) (s : ByteArray) (e : Ending) (w' : World) : Prop := e = .returned (.tuple #[.string (toB (quoL s)), .bool (decide (badF s = s.size))]) /\ Below w.heap.size w w'
def natD (n : Nat) : List UInt8 := if n < 10 then [UInt8.ofNat (48 + n)] else natD (n / 10) ++ [UInt8.ofNat (48 + n % 10)]
termination_by n
decreasing_by omega
theorem natD_low {n : Nat} (h : n / 10 = 0) : natD n = [UInt8.ofNat (48 + n % 10)] := by
 rw [natD, if_pos (by omega), Nat.mod_eq_of_lt (by omega)]
theorem natD_high {n : Nat} (h : n / 10 ≠ 0) : natD n = natD (n / 10) ++ [UInt8.ofNat (48 + n % 10)] := by
 rw [natD, if_neg (by omega)]
theorem natD_len : ∀ (k n : Nat), n < 10 ^ (k + 1) -> (natD n).length <= k + 1
 | 0, n, h => by rw [natD, if_pos (by simpa using h)]; simp
 | k + 1, n, h => by
   by_cases h0 : n / 10 = 0
   ·rw [natD_low h0]; simp
   ·rw [natD_high h0, List.length_append, List.length_singleton]
    have := natD_len k (n / 10) (by rw [Nat.div_lt_iff_lt_mul (by decide)]; rw [Nat.pow_succ] at h; omega)
    omega
def numL (n : Int) : List UInt8 := (if n < 0 then [45] else []) ++ natD n.natAbs
theorem natD_19 {n : Int} (h : (Lit.int .i64 n).wf = true) : (natD n.natAbs).length <= 19 := by
 have := bounds_i64 h
 exact natD_len 18 _ (by omega)
theorem numL_len {n : Int} (h : (Lit.int .i64 n).wf = true) : (numL n).length <= 20 := by
 unfold numL
 have := natD_19 h
 split <;> simp <;> omega
def PutRet (w : World) (n : Int) (e : Ending) (w' : World) : Prop := e = .returned (.string (toB (numL n))) /\ Below w.heap.size w w'
theorem ret_boolI {a b : Bool} (h : a = b) : Ending.returned (.bool a) = .returned (.bool b) := by rw [h]
def idCh (c : UInt8) : Bool := decide (97 <= c.toNat) && decide (c.toNat <= 122) || decide (65 <= c.toNat) && decide (c.toNat <= 90) || decide (48 <= c.toNat) && decide (c.toNat <= 57) || decide (c.toNat = 45) || decide (c.toNat = 95)
def idAll (s : ByteArray) : Bool := s.data.toList.all idCh
def idB (s : ByteArray) : Bool := decide (1 <= s.size) && decide (s.size <= 255) && idAll s
theorem idAll_yes {s : ByteArray} (h : ∀ j, j < s.size -> idCh s[j]! = true) : idAll s = true := by
 unfold idAll
 rw [List.all_eq_true]
 intro c hc
 obtain ⟨j, hj, e⟩ := List.getElem_of_mem hc
 have hj' : j < s.size := by rw [<- str_len]; exact hj
 have := h j hj'
 rw [get_bang s j hj'] at this
 rw [<- e]
 exact this
theorem idAll_no {s : ByteArray} {j : Nat} (hj : j < s.size) (h : idCh s[j]! = false) : idAll s = false := by
 unfold idAll
 rw [List.all_eq_false]
 refine ⟨s[j], ?_, by rw [<- get_bang s j hj, h]; simp⟩
 exact List.getElem_mem (l := s.data.toList) (by rw [str_len]; exact hj)
theorem identIs_any (s : ByteArray) (w : World) (hs : s.size <= maxLen) : Calls Tryz.prog 115 #[.string s] w fun e w' => e = .returned (.bool (idB s)) /\ w' = w := by
 unfold maxLen at hs
 by_cases h1 : s.size < 1
 ·have HR : Hid (idB s = false) := by unfold Hid idB; rw [decide_eq_false (by omega)]; rfl
  have q1 : decide ((s.size : Int) < 1) = true := by simp; omega
  have q2 : (s.size : Int) < 1 := by omega
  have q3 : s.size < 1 := h1
  rw [HR.out]
  clear HR
  go_enter Tryz.func115, Tryz.ntmps115
  go_wp2_with fail
  go_ret
  exact ⟨rfl, rfl⟩
 ·by_cases h2 : 255 < s.size
  ·have HR : Hid (idB s = false) := by unfold Hid idB; rw [decide_eq_false (p := s.size <= 255) (by omega), Bool.and_false]; rfl
   have q1 : decide ((s.size : Int) < 1) = false := by simp; omega
   have q2 : ¬ (s.size : Int) < 1 := by omega
   have q4 : decide ((255 : Int) < (s.size : Int)) = true := by simp; omega
   have q5 : (255 : Int) < (s.size : Int) := by omega
   rw [HR.out]
   clear HR
   go_enter Tryz.func115, Tryz.ntmps115
   go_wp2_with fail
   go_ret
   exact ⟨rfl, rfl⟩
  ·have HR : Hid (idB s = idAll s) := by unfold Hid idB; rw [decide_eq_true (by omega), decide_eq_true (by omega)]; rfl
   have q1 : decide ((s.size : Int) < 1) = false := by simp; omega
   have q2 : ¬ (s.size : Int) < 1 := by omega
   have q4 : decide ((255 : Int) < (s.size : Int)) = false := by simp; omega
   have q5 : ¬ (255 : Int) < (s.size : Int) := by omega
   rw [HR.out]
   clear HR
   go_enter Tryz.func115, Tryz.ntmps115
   go_wp2_with fail
   go_loop [15] (fun i => ∃ k : Nat, k <= s.size /\ i = .int .i64 (k : Int) /\ Hid (∀ j, j < k -> idCh s[j]! = true)) (fun i => s.size - (intOf i).toNat)
   case atStart => exact ⟨0, Nat.zero_le _, rfl, fun j h => by omega⟩
   case round =>
    obtain ⟨k, hk, rfl, hall⟩ := hrel
    by_cases hlt : k < s.size
    ·have k0 : (0 : Int) <= (k : Int) := Int.natCast_nonneg _
     have k1 : (k : Int) < (s.size : Int) := by omega
     have b0 : (0 : Int) <= ((s[k].toNat : Nat) : Int) := Int.natCast_nonneg _
     have hcc : Hid (idCh s[k]! = idCh s[k]) := by unfold Hid; rw [get_bang s k hlt]
     obtain ⟨c, hc⟩ : ∃ c, s[k] = c := ⟨_, rfl⟩
     rw [hc] at hcc b0
     have HC := Lib.hid hc
     by_cases a1 : 97 <= c.toNat <;> by_cases a2 : c.toNat <= 122 <;> by_cases a3 : 65 <= c.toNat <;> by_cases a4 : c.toNat <= 90 <;> by_cases a5 : 48 <= c.toNat <;> by_cases a6 : c.toNat <= 57 <;> by_cases a7 : c.toNat = 45 <;> by_cases a8 : c.toNat = 95
     all_goals first | (exfalso; omega) | skip
     all_goals
      have hp : Hid (idCh c = (decide (97 <= c.toNat) && decide (c.toNat <= 122) || decide (65 <= c.toNat) && decide (c.toNat <= 90) || decide (48 <= c.toNat) && decide (c.toNat <= 57) || decide (c.toNat = 45) || decide (c.toNat = 95))) := rfl
      first
       | (have d1 : decide ((97 : Int) <= ((c.toNat : Nat) : Int)) = true := decide_eq_true (by omega)
          have p1 : (97 : Int) <= ((c.toNat : Nat) : Int) := by omega)
       | (have d1 : decide ((97 : Int) <= ((c.toNat : Nat) : Int)) = false := decide_eq_false (by omega)
          have p1 : ¬ ((97 : Int) <= ((c.toNat : Nat) : Int)) := by omega)
      first
       | (have d2 : decide (((c.toNat : Nat) : Int) <= 122) = true := decide_eq_true (by omega)
          have p2 : ((c.toNat : Nat) : Int) <= 122 := by omega)
       | (have d2 : decide (((c.toNat : Nat) : Int) <= 122) = false := decide_eq_false (by omega)
          have p2 : ¬ (((c.toNat : Nat) : Int) <= 122) := by omega)
      first
       | (have d3 : decide ((65 : Int) <= ((c.toNat : Nat) : Int)) = true := decide_eq_true (by omega)
          have p3 : (65 : Int) <= ((c.toNat : Nat) : Int) := by omega)
       | (have d3 : decide ((65 : Int) <= ((c.toNat : Nat) : Int)) = false := decide_eq_false (by omega)
          have p3 : ¬ ((65 : Int) <= ((c.toNat : Nat) : Int)) := by omega)
      first
       | (have d4 : decide (((c.toNat : Nat) : Int) <= 90) = true := decide_eq_true (by omega)
          have p4 : ((c.toNat : Nat) : Int) <= 90 := by omega)
       | (have d4 : decide (((c.toNat : Nat) : Int) <= 90) = false := decide_eq_false (by omega)
          have p4 : ¬ (((c.toNat : Nat) : Int) <= 90) := by omega)
      first
       | (have d5 : decide ((48 : Int) <= ((c.toNat : Nat) : Int)) = true := decide_eq_true (by omega)
          have p5 : (48 : Int) <= ((c.toNat : Nat) : Int) := by omega)
       | (have d5 : decide ((48 : Int) <= ((c.toNat : Nat) : Int)) = false := decide_eq_false (by omega)
          have p5 : ¬ ((48 : Int) <= ((c.toNat : Nat) : Int)) := by omega)
      first
       | (have d6 : decide (((c.toNat : Nat) : Int) <= 57) = true := decide_eq_true (by omega)
          have p6 : ((c.toNat : Nat) : Int) <= 57 := by omega)
       | (have d6 : decide (((c.toNat : Nat) : Int) <= 57) = false := decide_eq_false (by omega)
          have p6 : ¬ (((c.toNat : Nat) : Int) <= 57) := by omega)
      first
       | (have d7 : (((c.toNat : Nat) : Int) == 45) = true := by simp; omega)
       | (have d7 : (((c.toNat : Nat) : Int) == 45) = false := by simp; omega)
      first
       | (have d8 : (((c.toNat : Nat) : Int) == 95) = true := by simp; omega)
       | (have d8 : (((c.toNat : Nat) : Int) == 95) = false := by simp; omega)
      go_wp2_with fail
      first
       | (go_round
          case rel =>
           refine ⟨k + 1, by omega, by go_num, fun j hj => ?_⟩
           by_cases e : j = k
           ·subst e; rw [hcc.out, hp.out]; simp [a1, a2, a3, a4, a5, a6, a7, a8]
           ·exact hall.out j (by omega)
          case measure => simp [intOf]; omega)
       | (go_ret
          refine ⟨ret_boolI ?_, rfl⟩
          exact (idAll_no hlt (by rw [hcc.out, hp.out]; simp [a1, a2, a3, a4, a5, a6, a7, a8])).symm)
    ·obtain rfl : k = s.size := by omega
     go_wp2_with fail
     go_ret
     exact ⟨ret_boolI (idAll_yes hall.out).symm, rfl⟩
theorem refIs_any (s : ByteArray) (w : World) (hs : s.size <= maxLen) : Calls Tryz.prog 90 #[.string s] w fun e w' => e = .returned (.bool (idB s)) /\ w' = w := by
 unfold maxLen at hs
 go_enter Tryz.func90, Tryz.ntmps90
 go_wp2_with fail
 go_loop [3] (fun i => ∃ k : Nat, k <= s.size /\ i = .int .i64 (k : Int) /\ Hid (∀ j, j < k -> idCh s[j]! = true)) (fun i => s.size - (intOf i).toNat)
 case atStart => exact ⟨0, Nat.zero_le _, rfl, fun j h => by omega⟩
 case round =>
  obtain ⟨k, hk, rfl, hall⟩ := hrel
  by_cases hlt : k < s.size
  ·have k0 : (0 : Int) <= (k : Int) := Int.natCast_nonneg _
   have k1 : (k : Int) < (s.size : Int) := by omega
   have b0 : (0 : Int) <= ((s[k].toNat : Nat) : Int) := Int.natCast_nonneg _
   have hcc : Hid (idCh s[k]! = idCh s[k]) := by unfold Hid; rw [get_bang s k hlt]
   obtain ⟨c, hc⟩ : ∃ c, s[k] = c := ⟨_, rfl⟩
   rw [hc] at hcc b0
   have HC := Lib.hid hc
   by_cases a1 : 97 <= c.toNat <;> by_cases a2 : c.toNat <= 122 <;> by_cases a3 : 65 <= c.toNat <;> by_cases a4 : c.toNat <= 90 <;> by_cases a5 : 48 <= c.toNat <;> by_cases a6 : c.toNat <= 57 <;> by_cases a7 : c.toNat = 45 <;> by_cases a8 : c.toNat = 95
   all_goals first | (exfalso; omega) | skip
   all_goals
    have hp : Hid (idCh c = (decide (97 <= c.toNat) && decide (c.toNat <= 122) || decide (65 <= c.toNat) && decide (c.toNat <= 90) || decide (48 <= c.toNat) && decide (c.toNat <= 57) || decide (c.toNat = 45) || decide (c.toNat = 95))) := rfl
    first
     | (have d1 : decide (((c.toNat : Nat) : Int) < 97) = true := decide_eq_true (by omega)
        have p1 : ((c.toNat : Nat) : Int) < 97 := by omega)
     | (have d1 : decide (((c.toNat : Nat) : Int) < 97) = false := decide_eq_false (by omega)
        have p1 : ¬ (((c.toNat : Nat) : Int) < 97) := by omega)
    first
     | (have d2 : decide ((122 : Int) < ((c.toNat : Nat) : Int)) = true := decide_eq_true (by omega)
        have p2 : (122 : Int) < ((c.toNat : Nat) : Int) := by omega)
     | (have d2 : decide ((122 : Int) < ((c.toNat : Nat) : Int)) = false := decide_eq_false (by omega)
        have p2 : ¬ ((122 : Int) < ((c.toNat : Nat) : Int)) := by omega)
    first
     | (have d3 : decide (((c.toNat : Nat) : Int) < 65) = true := decide_eq_true (by omega)
        have p3 : ((c.toNat : Nat) : Int) < 65 := by omega)
     | (have d3 : decide (((c.toNat : Nat) : Int) < 65) = false := decide_eq_false (by omega)
        have p3 : ¬ (((c.toNat : Nat) : Int) < 65) := by omega)
    first
     | (have d4 : decide ((90 : Int) < ((c.toNat : Nat) : Int)) = true := decide_eq_true (by omega)
        have p4 : (90 : Int) < ((c.toNat : Nat) : Int) := by omega)
     | (have d4 : decide ((90 : Int) < ((c.toNat : Nat) : Int)) = false := decide_eq_false (by omega)
        have p4 : ¬ ((90 : Int) < ((c.toNat : Nat) : Int)) := by omega)
    first
     | (have d5 : decide (((c.toNat : Nat) : Int) < 48) = true := decide_eq_true (by omega)
        have p5 : ((c.toNat : Nat) : Int) < 48 := by omega)
     | (have d5 : decide (((c.toNat : Nat) : Int) < 48) = false := decide_eq_false (by omega)
        have p5 : ¬ (((c.toNat : Nat) : Int) < 48) := by omega)
    first
     | (have d6 : decide ((57 : Int) < ((c.toNat : Nat) : Int)) = true := decide_eq_true (by omega)
        have p6 : (57 : Int) < ((c.toNat : Nat) : Int) := by omega)
     | (have d6 : decide ((57 : Int) < ((c.toNat : Nat) : Int)) = false := decide_eq_false (by omega)
        have p6 : ¬ ((57 : Int) < ((c.toNat : Nat) : Int)) := by omega)
    first
     | (have d7 : (((c.toNat : Nat) : Int) != 45) = true := by simp; omega)
     | (have d7 : (((c.toNat : Nat) : Int) != 45) = false := by simp; omega)
    first
     | (have d8 : (((c.toNat : Nat) : Int) != 95) = true := by simp; omega)
     | (have d8 : (((c.toNat : Nat) : Int) != 95) = false := by simp; omega)
    go_wp2_with fail
    first
     | (go_round
        case rel =>
         refine ⟨k + 1, by omega, by go_num, fun j hj => ?_⟩
         by_cases e : j = k
         ·subst e; rw [hcc.out, hp.out]; simp [a1, a2, a3, a4, a5, a6, a7, a8]
         ·exact hall.out j (by omega)
        case measure => simp [intOf]; omega)
     | (go_ret
        refine ⟨ret_boolI ?_, rfl⟩
        unfold idB
        rw [idAll_no hlt (by rw [hcc.out, hp.out]; simp [a1, a2, a3, a4, a5, a6, a7, a8]), Bool.and_false])
  ·obtain rfl : k = s.size := by omega
   have HA := Lib.hid (idAll_yes hall.out)
   by_cases h1 : 1 <= s.size <;> by_cases h2 : s.size <= 255
   all_goals first | (exfalso; omega) | skip
   all_goals
    first
     | (have d1 : decide ((1 : Int) <= (s.size : Int)) = true := decide_eq_true (by omega)
        have p1 : (1 : Int) <= (s.size : Int) := by omega)
     | (have d1 : decide ((1 : Int) <= (s.size : Int)) = false := decide_eq_false (by omega)
        have p1 : ¬ ((1 : Int) <= (s.size : Int)) := by omega)
    first
     | (have d2 : decide ((s.size : Int) <= 255) = true := decide_eq_true (by omega)
        have p2 : (s.size : Int) <= 255 := by omega)
     | (have d2 : decide ((s.size : Int) <= 255) = false := decide_eq_false (by omega)
        have p2 : ¬ ((s.size : Int) <= 255) := by omega)
    have hr : Hid (idB s = (decide (1 <= s.size) && decide (s.size <= 255))) := by unfold Hid idB; rw [HA.out, Bool.and_true]
    go_wp2_with fail
    go_ret
    refine ⟨ret_boolI ?_, rfl⟩
    rw [hr.out]
    simp [h1, h2]
end
section
open Go.RowKit Go.OpenShut
def KB (B : Nat) (W w : World) : Prop := Below B W w /\ ∀ b o, b < B -> w.cell? ⟨b, o, none⟩ = W.cell? ⟨b, o, none⟩
theorem KB.mk {B : Nat} {W w : World} (h : Below B W w) : KB B W w := ⟨h, fun b o hb => h.cell (p := ⟨b, o, none⟩) hb⟩
theorem KB.fin {b B : Nat} {w W w' : World} (hk : KB B W w') (h : Below b w W) (hb : b <= B) : Below b w w' := h.trans (hk.1.mono hb)
theorem KB.refl (W : World) : KB W.heap.size W W := KB.mk (Below.refl _ _)
theorem KB.step {W w w' : World} (hk : KB W.heap.size W w) (h : Below w.heap.size w w') : KB W.heap.size W w' := KB.mk (hk.1.trans (h.mono hk.1.size))
theorem KB.drew (W : World) : KB W.heap.size W W.drew := KB.mk (Below.refl _ _).drew
abbrev RV.obj (r : RV) : Obj := .cells #[.int .i64 r.k, .int .i64 r.n, .string r.s, .slice r.pl r.nl r.cl, .slice r.pm r.nm r.cm] 25
structure Ctx (b : Nat) (w0 W : World) (L : List (Nat × RV)) (T : List (JV × RV)) : Prop where
 below : Below b w0 W
 le : b <= W.heap.size
 loc : ∀ (i g : Nat) (r : RV), L[i]? = some (g, r) -> g < W.heap.size /\ VAt W g r
 tree : ∀ (i : Nat) (t : JV) (r : RV), T[i]? = some (t, r) -> TreeOf W W.heap.size t r
theorem Ctx.nil (w : World) : Ctx w.heap.size w w [] [] := ⟨Below.refl _ _, Nat.le_refl _, fun i g r h => by simp at h, fun i t r h => by simp at h⟩
section
variable {b : Nat} {w0 W w : World} {L : List (Nat × RV)} {T : List (JV × RV)} (h : Ctx b w0 W L T)
include h
theorem Ctx.go (hb : Below W.heap.size W w) : Ctx b w0 w L T :=
 ⟨h.below.trans (hb.mono h.le), Nat.le_trans h.le hb.size, fun i g r hi => ⟨Nat.lt_of_lt_of_le (h.loc i g r hi).1 hb.size, (h.loc i g r hi).2.under hb (h.loc i g r hi).1⟩, fun i t r hi => (h.tree i t r hi).under hb hb.size⟩
theorem Ctx.alloc (x : RV) : Ctx b w0 (W.alloc x.obj) ((W.heap.size, x) :: L) T := by
 have g := h.go ((Below.refl _ _).alloc (Nat.le_refl _) x.obj)
 refine ⟨g.below, g.le, fun i k r hi => ?_, g.tree⟩
 cases i with
 | zero =>
   cases hi
   exact ⟨by simp, heap_alloc_at rfl⟩
 | succ i => exact g.loc i k r hi
theorem Ctx.know {t : JV} {x : RV} (hx : TreeOf W W.heap.size t x) : Ctx b w0 W L ((t, x) :: T) := by
 refine ⟨h.below, h.le, h.loc, fun i u r hi => ?_⟩
 cases i with
 | zero => cases hi; exact hx
 | succ i => exact h.tree i u r hi
theorem Ctx.box (hk : KB W.heap.size W w) {t : JV} {x : RV} (hx : TreeOf w w.heap.size t x) : Ctx b w0 (w.alloc x.obj) ((w.heap.size, x) :: L) ((t, x) :: T) :=
 ((h.go hk.1).know hx).alloc x
theorem Ctx.tk (hk : KB W.heap.size W w) (i : Nat) {t : JV} {r : RV} (hi : T[i]? = some (t, r)) : TreeOf w w.heap.size t r := (h.tree i t r hi).under hk.1 hk.1.size
theorem Ctx.lt (i : Nat) {g : Nat} {r : RV} (hi : L[i]? = some (g, r)) : g < W.heap.size := (h.loc i g r hi).1
theorem Ctx.at (i : Nat) {g : Nat} {r : RV} (hi : L[i]? = some (g, r)) : VAt W g r := (h.loc i g r hi).2
theorem Ctx.fin (hk : KB W.heap.size W w) : Below b w0 w := h.below.trans (hk.1.mono h.le)
end
end
section
open Go Go.RowKit Go.OpenShut
def safeN : Int := 9007199254740991
def stateB (card : Bool) (n : Int) : ByteArray := if decide (0 <= n) && decide (n <= safeN) then toB ((if card then 99 else 98) :: numL n) else ⟨#[]⟩
def kindI (card : Bool) : Int := if card then 1 else 2
theorem str_oneB (W : World) (b : Nat) (x : UInt8) (h : W.cell? ⟨b, 0, none⟩ = some (.int .u8 x.toNat)) : (convert 160 9 (.slice (some ⟨b, 0, none⟩) 1 1)).run Tryz.prog W = .ok (.string (toB [x])) W := by
 refine run_convert_bytes_back W _ _ _ _ 1 [x] Tryz.underlying160 Tryz.underlying5 Tryz.underlying9 (fun j hj => ?_)
 have : j = 0 := by simp at hj; omega
 subst this
 rw [add_eq]
 exact h
theorem toB_app (a b : List UInt8) : toB a ++ toB b = toB (a ++ b) := by
 apply ByteArray.ext
 simp [toB]
end
end Go.Proofs.YtffhccmppdgmfaaGreatDoor
