import Derived.Test.YtfgjimpmpckgpaaGreatDoorSg43
import Derived.Defers
import Derived.Recover
import Derived.Test.YtfgjimpmpckgpaaGreatDoorSg12
set_option linter.unusedSimpArgs false
set_option linter.unusedVariables false
set_option maxRecDepth 200000
set_option maxHeartbeats 8000000
namespace Go.Proofs.YtfgjimpmpckgpaaGreatDoor
section
open Go Go.RowKit Go.OpenShut
theorem readCatch_idle (a b c : Value) (w : World) : CallsD Tryz.prog 69 #[a, b, c] .returning w fun e u' w' => e = .returned (.tuple #[]) /\ u' = .returning /\ w' = w := by
 refine callsD_of_wpS Tryz.func69 rfl fun c₀ cs hu => ?_
 apply wpS_seq
 apply wpS_region
 simp [wpOpsS, go_sem, recoverD, hu, Tryz.ntmps69, Exit.thenS]
 apply wpS_seq
 apply wpS_region
 simp [wpOpsS, go_sem, Exit.thenS]
 refine wpS_cond (t := false) (by simp [Act.eval, Array.replicate]) ?_
 simp only [Bool.false_eq_true, if_false]
 refine wpS_of_wp (wp_skip ?_)
 cases c₀
 simp_all [bodyPostS, results, Tryz.results69]
def NumBk (W : World) (ty : TypeId) (g : Nat) (n : Int) : Prop := W.heap[g]? = some (.cells #[.int .i64 n] ty (0, 0))
section
variable {W W' : World} {ty : TypeId} {g : Nat} {n : Int} (h : NumBk W ty g n)
include h
theorem NumBk.lt : g < W.heap.size := (Array.getElem?_eq_some_iff.1 h).1
theorem NumBk.cell : W.cell? ⟨g, 0, none⟩ = some (.int .i64 n) := by
 unfold NumBk at h
 rw [cell_of_row W g 0 _ _ _ h]
 rfl
theorem NumBk.frozen : W.frozen? ⟨g, 0, none⟩ = false := by
 unfold NumBk at h
 simp [World.frozen?, h]
theorem NumBk.keep (hk : W'.heap[g]? = W.heap[g]?) : NumBk W' ty g n := hk.trans h
theorem NumBk.set (m : Int) : NumBk (W.setCell ⟨g, 0, none⟩ (.int .i64 m)) ty g m := by
 unfold NumBk at h ⊢
 simp [World.setCell, Array.getElem?_modify, h]
end
def ReadRet (w : World) (v : JV) (e : Ending) (w' : World) : Prop := ∃ r : RV, e = .returned (.tuple #[RV.val r, .int .i64 0, .int .i64 0]) /\ TreeOf w' w'.heap.size v r /\ Below w.heap.size w w'
theorem readF_parts {s : ByteArray} {v : JV} (h : readF s = some v) : ∃ t ts q, Toks s 0 (t :: ts) /\ parV ((t :: ts).length + 1) 1 0 (t :: ts) = some (v, q, []) := by
 unfold readF at h
 split at h
 ·cases h
 ·rename_i l hl
  split at h
  ·rename_i v' q hv
   cases h
   cases l with
   | nil => simp [parV] at hv
   | cons t ts => exact ⟨t, ts, q, toksF_ok s _ _ _ hl, hv⟩
  ·cases h
theorem read_any (w : World) (s : ByteArray) (v : JV) (hs : s.size <= 65536) (hv : readF s = some v) : Calls Tryz.prog 26 #[.string s] w (ReadRet w v) := by
 obtain ⟨t, ts, q, htk, hpv⟩ := readF_parts hv
 have HTK : Hid (∀ W, Calls Tryz.prog 68 #[.string s] W (TksR W (t :: ts))) := fun W => tokens_any W s (t :: ts) hs htk
 have HNX : Hid (∀ W g en, RdS W g (t :: ts) en 0 -> Calls Tryz.prog 71 #[.pointer (some ⟨g, 0, none⟩)] W (NxtRet W g t ts en 0)) := fun W g en hr => next_any W g en 0 t ts hr
 have HVA : Hid (∀ W g en, RdS W g ts en 0 -> Calls Tryz.prog 70 #[.pointer (some ⟨g, 0, none⟩), t.val, .int .i64 1] W (ValR W g v [] en q)) := fun W g en hr => value_all _ _ (Nat.le_refl _) 1 0 t ts v q [] hpv W g en hr
 clear hv htk hpv
 have hZ0 : VAt (((w.alloc (.cells #[.int .i64 0, .int .i64 0, .string ⟨#[]⟩, .slice none 0 0, .slice none 0 0] 31)).alloc (.cells #[.int .i64 0] 3)).alloc (.cells #[.int .i64 0] 50)) w.heap.size RV.zero := heap_alloc_lt (by simp; omega) (heap_alloc_lt (by simp) (heap_alloc_at rfl))
 have hN1 : NumBk (((w.alloc (.cells #[.int .i64 0, .int .i64 0, .string ⟨#[]⟩, .slice none 0 0, .slice none 0 0] 31)).alloc (.cells #[.int .i64 0] 3)).alloc (.cells #[.int .i64 0] 50)) 3 (w.heap.size + 1) 0 := heap_alloc_lt (by simp) (heap_alloc_at (by simp))
 have hN2 : NumBk (((w.alloc (.cells #[.int .i64 0, .int .i64 0, .string ⟨#[]⟩, .slice none 0 0, .slice none 0 0] 31)).alloc (.cells #[.int .i64 0] 3)).alloc (.cells #[.int .i64 0] 50)) 50 (w.heap.size + 1 + 1) 0 := heap_alloc_at (by simp)
 have hB0 : Below w.heap.size w (((w.alloc (.cells #[.int .i64 0, .int .i64 0, .string ⟨#[]⟩, .slice none 0 0, .slice none 0 0] 31)).alloc (.cells #[.int .i64 0] 3)).alloc (.cells #[.int .i64 0] 50)) := (((Below.refl _ _).alloc (Nat.le_refl _) _).alloc (by simp) _).alloc (by simp; omega) _
 have hs0 : (((w.alloc (.cells #[.int .i64 0, .int .i64 0, .string ⟨#[]⟩, .slice none 0 0, .slice none 0 0] 31)).alloc (.cells #[.int .i64 0] 3)).alloc (.cells #[.int .i64 0] 50)).heap.size = w.heap.size + 3 := by simp
 have hmf : ∀ (fn : Fn) (first cap : Array Value) (w : World), (Instr.makeFunc fn first cap).run Tryz.prog w = .ok (.func fn first cap) w := fun _ _ _ _ => rfl
 go_enter_defers Tryz.func26, Tryz.ntmps26
 go_upto_region 1 with fail
 obtain ⟨W0, hW0⟩ : ∃ W, ((w.alloc (.cells #[.int .i64 0, .int .i64 0, .string ⟨#[]⟩, .slice none 0 0, .slice none 0 0] 31)).alloc (.cells #[.int .i64 0] 3)).alloc (.cells #[.int .i64 0] 50) = W := ⟨_, rfl⟩
 rw [hW0] at hZ0 hN1 hN2 hB0 hs0
 try rw [hW0]
 clear hW0
 have HZ0 := Lib.hid hZ0
 have HN1 := Lib.hid hN1
 have HN2 := Lib.hid hN2
 have HB0 := Lib.hid hB0
 have HS0 := Lib.hid hs0
 clear hZ0 hN1 hN2 hB0 hs0
 go_upto_region 2 with (go_at_call 68; refine (HTK.out _).mono ?_; rintro e w1 ⟨p1, n1, c1, rfl, hr1, hb1⟩; (have hN11 := HN1.out.keep (hb1.block _ HN1.out.lt)); (have hN21 := HN2.out.keep (hb1.block _ HN2.out.lt)); (have x1 := hN11.cell); (have x2 := hN21.cell); (have y1 := hN11.frozen); (have y2 := hN21.frozen))
 have hg1 := grownBy_set w1 (w.heap.size + 1) 0 (.int .i64 0)
 have hg2 := grownBy_set (w1.setCell ⟨w.heap.size + 1, 0, none⟩ (.int .i64 0)) (w.heap.size + 1 + 1) 0 (.int .i64 0)
 have hN12 := (hN11.set 0).keep (hg2.block _ (hN11.set 0).lt (by simp))
 have hN22 := (hN21.keep (hg1.block _ hN21.lt (by simp))).set 0
 have hZ1 := HZ0.out.keep (hb1.block _ HZ0.out.lt)
 have hZ2 := (hZ1.keep (hg1.block _ hZ1.lt (by simp)))
 have hZ3 := hZ2.keep (hg2.block _ hZ2.lt (by simp; omega))
 have hb2 : Below w.heap.size w ((w1.setCell ⟨w.heap.size + 1, 0, none⟩ (.int .i64 0)).setCell ⟨w.heap.size + 1 + 1, 0, none⟩ (.int .i64 0)) :=
  ((HB0.out.trans (hb1.mono HB0.out.size)).grown hg1 (by have := HS0.out; have := hb1.size; omega) (fun k e => by cases e; omega)).grown hg2 (by have := HS0.out; have := hb1.size; simp; omega) (fun k e => by cases e; omega)
 obtain ⟨w2, hw2⟩ : ∃ W, (w1.setCell ⟨w.heap.size + 1, 0, none⟩ (.int .i64 0)).setCell ⟨w.heap.size + 1 + 1, 0, none⟩ (.int .i64 0) = W := ⟨_, rfl⟩
 have hO2 := hr1.same (w' := (w1.setCell ⟨w.heap.size + 1, 0, none⟩ (.int .i64 0)).setCell ⟨w.heap.size + 1 + 1, 0, none⟩ (.int .i64 0)) (fun k e => by
  have h3 := hr1.lt k e
  have h4 := HS0.out
  exact (hg2.block k (by simp; omega) (fun e2 => by cases e2; omega)).trans (hg1.block k h3.2 (fun e2 => by cases e2; omega)))
 rw [hw2] at hN12 hN22 hZ3 hb2 hO2
 try rw [hw2]
 have HO2 := Lib.hid hO2
 have HN3 := Lib.hid hN12
 have HN4 := Lib.hid hN22
 have HZ3 := Lib.hid hZ3
 have HB2 := Lib.hid hb2
 have a2 := hN22.cell
 clear hw2 hg1 hg2 hN11 hN21 hZ1 hZ2 x1 x2 y1 y2 hr1 hb1 hN12 hN22 hZ3 hb2 hO2
 go_upto_region 6 with fail
 have hR5 : RdS (w2.alloc (.cells #[.slice p1 n1 c1, .int .i64 s.size, .int .i64 0] 118)) w2.heap.size (t :: ts) s.size 0 := ⟨p1, n1, c1, heap_alloc_at rfl, (HO2.out.rd codecTok).below ((Below.refl _ _).alloc (Nat.le_refl _) _) (Nat.le_refl _)⟩
 have hZ5 := HZ3.out.keep (W' := w2.alloc (.cells #[.slice p1 n1 c1, .int .i64 s.size, .int .i64 0] 118)) (Below.heap_alloc _ _ _ HZ3.out.lt)
 have hN5 := HN3.out.keep (W' := w2.alloc (.cells #[.slice p1 n1 c1, .int .i64 s.size, .int .i64 0] 118)) (Below.heap_alloc _ _ _ HN3.out.lt)
 have hN6 := HN4.out.keep (W' := w2.alloc (.cells #[.slice p1 n1 c1, .int .i64 s.size, .int .i64 0] 118)) (Below.heap_alloc _ _ _ HN4.out.lt)
 have hB5 := HB2.out.alloc HB2.out.size (.cells #[.slice p1 n1 c1, .int .i64 s.size, .int .i64 0] 118)
 have hlt5 : w.heap.size + 2 < w2.heap.size := HN4.out.lt
 obtain ⟨g, hg⟩ : ∃ g, w2.heap.size = g := ⟨_, rfl⟩
 obtain ⟨w3, hw3⟩ : ∃ W, w2.alloc (.cells #[.slice p1 n1 c1, .int .i64 s.size, .int .i64 0] 118) = W := ⟨_, rfl⟩
 rw [hw3, hg] at hR5
 rw [hw3] at hZ5 hN5 hN6 hB5
 rw [hg] at hlt5
 try rw [hw3]
 try rw [hg]
 have HR5 := Lib.hid hR5
 have HZ5 := Lib.hid hZ5
 have HN5 := Lib.hid hN5
 have HN6 := Lib.hid hN6
 have HB5 := Lib.hid hB5
 clear hw3 hg hR5 hZ5 hN5 hN6 hB5 HO2 HN3 HN4 HZ3 HB2 a2
 obtain ⟨tk, tn, tS, tp⟩ := t
 dsimp only [Tok.val, NxtRet] at *
 go_upto_region 7 with (first
  | (go_at_call 71; refine (HNX.out _ _ _ HR5.out).mono ?_; rintro e w4 ⟨rfl, hr4, hg4⟩)
  | (go_at_call 70; refine (HVA.out _ _ _ hr4).mono ?_; rintro e w5 ⟨rv, rfl, ht5, hr5, hg5⟩; obtain ⟨vk, vn, vs, vpl, vnl, vcl, vpm, vnm, vcm⟩ := rv; (have hg45 := hg4.trans hg5); (have hZ6 := HZ5.out.keep (hg45.block _ HZ5.out.lt (by simp; omega))); (obtain ⟨z0, z1, z2, z3, z4⟩ := hZ6.cells5); (have y0 := hZ6.frozen 0); (have y1 := hZ6.frozen 1); (have y2 := hZ6.frozen 2); (have y3 := hZ6.frozen 3); (have y4 := hZ6.frozen 4)))
 have hv6 := hZ6.stored ⟨vk, vn, vs, vpl, vnl, vcl, vpm, vnm, vcm⟩
 have hg6 := grownBy_set5 w5 w.heap.size ⟨vk, vn, vs, vpl, vnl, vcl, vpm, vnm, vcm⟩
 have hlt4 := HN6.out.lt
 have hN7 := ((HN5.out.keep (hg45.block _ HN5.out.lt (by simp; omega)))).keep (hg6.block (w.heap.size + 1) (Nat.lt_of_lt_of_le HN5.out.lt hg45.size) (by simp))
 have hN8 := ((HN6.out.keep (hg45.block _ HN6.out.lt (by simp; omega)))).keep (hg6.block (w.heap.size + 1 + 1) (Nat.lt_of_lt_of_le HN6.out.lt hg45.size) (by simp; omega))
 have hr6 : ∃ p c, (((((w5.setCell ⟨w.heap.size, 0, none⟩ (.int .i64 (⟨vk, vn, vs, vpl, vnl, vcl, vpm, vnm, vcm⟩ : RV).k)).setCell ⟨w.heap.size, 1, none⟩ (.int .i64 (⟨vk, vn, vs, vpl, vnl, vcl, vpm, vnm, vcm⟩ : RV).n)).setCell ⟨w.heap.size, 2, none⟩ (.string (⟨vk, vn, vs, vpl, vnl, vcl, vpm, vnm, vcm⟩ : RV).s)).setCell ⟨w.heap.size, 3, none⟩ (.slice (⟨vk, vn, vs, vpl, vnl, vcl, vpm, vnm, vcm⟩ : RV).pl (⟨vk, vn, vs, vpl, vnl, vcl, vpm, vnm, vcm⟩ : RV).nl (⟨vk, vn, vs, vpl, vnl, vcl, vpm, vnm, vcm⟩ : RV).cl)).setCell ⟨w.heap.size, 4, none⟩ (.slice (⟨vk, vn, vs, vpl, vnl, vcl, vpm, vnm, vcm⟩ : RV).pm (⟨vk, vn, vs, vpl, vnl, vcl, vpm, vnm, vcm⟩ : RV).nm (⟨vk, vn, vs, vpl, vnl, vcl, vpm, vnm, vcm⟩ : RV).cm)).cell? ⟨g, 0, none⟩ = some (.slice p 0 c) := by
  obtain ⟨p, n, c, h1, h2⟩ := hr5.ex
  have hn := rd_nlen h2
  have h3 := h1.keep (hg6.block g h1.lt (by simp; omega))
  have h4 := h3.cell 0 rfl
  rw [hn] at h4
  exact ⟨p, c, h4⟩
 have ht6 := ht5.same (fun k hk => hg6.block k hk.2 (fun e => by cases e; have := hk.1; have := hg4.size; omega))
 have hb6 : Below w.heap.size w (((((w5.setCell ⟨w.heap.size, 0, none⟩ (.int .i64 (⟨vk, vn, vs, vpl, vnl, vcl, vpm, vnm, vcm⟩ : RV).k)).setCell ⟨w.heap.size, 1, none⟩ (.int .i64 (⟨vk, vn, vs, vpl, vnl, vcl, vpm, vnm, vcm⟩ : RV).n)).setCell ⟨w.heap.size, 2, none⟩ (.string (⟨vk, vn, vs, vpl, vnl, vcl, vpm, vnm, vcm⟩ : RV).s)).setCell ⟨w.heap.size, 3, none⟩ (.slice (⟨vk, vn, vs, vpl, vnl, vcl, vpm, vnm, vcm⟩ : RV).pl (⟨vk, vn, vs, vpl, vnl, vcl, vpm, vnm, vcm⟩ : RV).nl (⟨vk, vn, vs, vpl, vnl, vcl, vpm, vnm, vcm⟩ : RV).cl)).setCell ⟨w.heap.size, 4, none⟩ (.slice (⟨vk, vn, vs, vpl, vnl, vcl, vpm, vnm, vcm⟩ : RV).pm (⟨vk, vn, vs, vpl, vnl, vcl, vpm, vnm, vcm⟩ : RV).nm (⟨vk, vn, vs, vpl, vnl, vcl, vpm, vnm, vcm⟩ : RV).cm)) := (HB5.out.grown hg45 (by omega) (fun k e => by cases e; omega)).grown hg6 (by have := hg45.size; omega) (fun k e => by cases e; omega)
 have hz6 : (((((w5.setCell ⟨w.heap.size, 0, none⟩ (.int .i64 (⟨vk, vn, vs, vpl, vnl, vcl, vpm, vnm, vcm⟩ : RV).k)).setCell ⟨w.heap.size, 1, none⟩ (.int .i64 (⟨vk, vn, vs, vpl, vnl, vcl, vpm, vnm, vcm⟩ : RV).n)).setCell ⟨w.heap.size, 2, none⟩ (.string (⟨vk, vn, vs, vpl, vnl, vcl, vpm, vnm, vcm⟩ : RV).s)).setCell ⟨w.heap.size, 3, none⟩ (.slice (⟨vk, vn, vs, vpl, vnl, vcl, vpm, vnm, vcm⟩ : RV).pl (⟨vk, vn, vs, vpl, vnl, vcl, vpm, vnm, vcm⟩ : RV).nl (⟨vk, vn, vs, vpl, vnl, vcl, vpm, vnm, vcm⟩ : RV).cl)).setCell ⟨w.heap.size, 4, none⟩ (.slice (⟨vk, vn, vs, vpl, vnl, vcl, vpm, vnm, vcm⟩ : RV).pm (⟨vk, vn, vs, vpl, vnl, vcl, vpm, vnm, vcm⟩ : RV).nm (⟨vk, vn, vs, vpl, vnl, vcl, vpm, vnm, vcm⟩ : RV).cm)).heap.size = w5.heap.size := by simp
 dsimp only at hv6 hr6 hb6 hN7 hN8 ht6 hz6
 obtain ⟨w6, hw6⟩ : ∃ W, (((((w5.setCell ⟨w.heap.size, 0, none⟩ (.int .i64 (⟨vk, vn, vs, vpl, vnl, vcl, vpm, vnm, vcm⟩ : RV).k)).setCell ⟨w.heap.size, 1, none⟩ (.int .i64 (⟨vk, vn, vs, vpl, vnl, vcl, vpm, vnm, vcm⟩ : RV).n)).setCell ⟨w.heap.size, 2, none⟩ (.string (⟨vk, vn, vs, vpl, vnl, vcl, vpm, vnm, vcm⟩ : RV).s)).setCell ⟨w.heap.size, 3, none⟩ (.slice (⟨vk, vn, vs, vpl, vnl, vcl, vpm, vnm, vcm⟩ : RV).pl (⟨vk, vn, vs, vpl, vnl, vcl, vpm, vnm, vcm⟩ : RV).nl (⟨vk, vn, vs, vpl, vnl, vcl, vpm, vnm, vcm⟩ : RV).cl)).setCell ⟨w.heap.size, 4, none⟩ (.slice (⟨vk, vn, vs, vpl, vnl, vcl, vpm, vnm, vcm⟩ : RV).pm (⟨vk, vn, vs, vpl, vnl, vcl, vpm, vnm, vcm⟩ : RV).nm (⟨vk, vn, vs, vpl, vnl, vcl, vpm, vnm, vcm⟩ : RV).cm)) = W := ⟨_, rfl⟩
 dsimp only at hw6
 rw [hw6] at hv6 hr6 hb6 hN7 hN8 ht6 hz6
 try rw [hw6]
 clear z0 z1 z2 z3 z4 y0 y1 y2 y3 y4 hw6
 obtain ⟨p6, c6, c0⟩ := hr6
 obtain ⟨v0, v1, v2, v3, v4⟩ := hv6.cells5
 have y0 := hv6.frozen 0
 have y1 := hv6.frozen 1
 have y2 := hv6.frozen 2
 have y3 := hv6.frozen 3
 have y4 := hv6.frozen 4
 have x1 := hN7.cell
 have x2 := hN8.cell
 have y11 := hN7.frozen
 have y12 := hN8.frozen
 dsimp only at v0 v1 v2 v3 v4
 have hg7 := grownBy_set5 w6 w.heap.size (⟨vk, vn, vs, vpl, vnl, vcl, vpm, vnm, vcm⟩ : RV)
 have hg8 := grownBy_set (((((w6.setCell ⟨w.heap.size, 0, none⟩ (.int .i64 (⟨vk, vn, vs, vpl, vnl, vcl, vpm, vnm, vcm⟩ : RV).k)).setCell ⟨w.heap.size, 1, none⟩ (.int .i64 (⟨vk, vn, vs, vpl, vnl, vcl, vpm, vnm, vcm⟩ : RV).n)).setCell ⟨w.heap.size, 2, none⟩ (.string (⟨vk, vn, vs, vpl, vnl, vcl, vpm, vnm, vcm⟩ : RV).s)).setCell ⟨w.heap.size, 3, none⟩ (.slice (⟨vk, vn, vs, vpl, vnl, vcl, vpm, vnm, vcm⟩ : RV).pl (⟨vk, vn, vs, vpl, vnl, vcl, vpm, vnm, vcm⟩ : RV).nl (⟨vk, vn, vs, vpl, vnl, vcl, vpm, vnm, vcm⟩ : RV).cl)).setCell ⟨w.heap.size, 4, none⟩ (.slice (⟨vk, vn, vs, vpl, vnl, vcl, vpm, vnm, vcm⟩ : RV).pm (⟨vk, vn, vs, vpl, vnl, vcl, vpm, vnm, vcm⟩ : RV).nm (⟨vk, vn, vs, vpl, vnl, vcl, vpm, vnm, vcm⟩ : RV).cm)) (w.heap.size + 1) 0 (.int .i64 0)
 have hg9 := grownBy_set ((((((w6.setCell ⟨w.heap.size, 0, none⟩ (.int .i64 (⟨vk, vn, vs, vpl, vnl, vcl, vpm, vnm, vcm⟩ : RV).k)).setCell ⟨w.heap.size, 1, none⟩ (.int .i64 (⟨vk, vn, vs, vpl, vnl, vcl, vpm, vnm, vcm⟩ : RV).n)).setCell ⟨w.heap.size, 2, none⟩ (.string (⟨vk, vn, vs, vpl, vnl, vcl, vpm, vnm, vcm⟩ : RV).s)).setCell ⟨w.heap.size, 3, none⟩ (.slice (⟨vk, vn, vs, vpl, vnl, vcl, vpm, vnm, vcm⟩ : RV).pl (⟨vk, vn, vs, vpl, vnl, vcl, vpm, vnm, vcm⟩ : RV).nl (⟨vk, vn, vs, vpl, vnl, vcl, vpm, vnm, vcm⟩ : RV).cl)).setCell ⟨w.heap.size, 4, none⟩ (.slice (⟨vk, vn, vs, vpl, vnl, vcl, vpm, vnm, vcm⟩ : RV).pm (⟨vk, vn, vs, vpl, vnl, vcl, vpm, vnm, vcm⟩ : RV).nm (⟨vk, vn, vs, vpl, vnl, vcl, vpm, vnm, vcm⟩ : RV).cm)).setCell ⟨w.heap.size + 1, 0, none⟩ (.int .i64 0)) (w.heap.size + 1 + 1) 0 (.int .i64 0)
 have hv7 := ((hv6.stored (⟨vk, vn, vs, vpl, vnl, vcl, vpm, vnm, vcm⟩ : RV)).keep (hg8.block _ (hv6.stored (⟨vk, vn, vs, vpl, vnl, vcl, vpm, vnm, vcm⟩ : RV)).lt (by simp)))
 have hv9 := hv7.keep (hg9.block _ hv7.lt (by simp; omega))
 have hN9 := (((hN7.keep (hg7.block _ hN7.lt (by simp))).set 0))
 have hN9' := hN9.keep (hg9.block _ hN9.lt (by simp))
 have hN10 := ((hN8.keep (hg7.block _ hN8.lt (by simp; omega))).keep (hg8.block _ (hN8.keep (hg7.block _ hN8.lt (by simp; omega))).lt (by simp))).set 0
 have hb9 : Below w.heap.size w (((((((w6.setCell ⟨w.heap.size, 0, none⟩ (.int .i64 (⟨vk, vn, vs, vpl, vnl, vcl, vpm, vnm, vcm⟩ : RV).k)).setCell ⟨w.heap.size, 1, none⟩ (.int .i64 (⟨vk, vn, vs, vpl, vnl, vcl, vpm, vnm, vcm⟩ : RV).n)).setCell ⟨w.heap.size, 2, none⟩ (.string (⟨vk, vn, vs, vpl, vnl, vcl, vpm, vnm, vcm⟩ : RV).s)).setCell ⟨w.heap.size, 3, none⟩ (.slice (⟨vk, vn, vs, vpl, vnl, vcl, vpm, vnm, vcm⟩ : RV).pl (⟨vk, vn, vs, vpl, vnl, vcl, vpm, vnm, vcm⟩ : RV).nl (⟨vk, vn, vs, vpl, vnl, vcl, vpm, vnm, vcm⟩ : RV).cl)).setCell ⟨w.heap.size, 4, none⟩ (.slice (⟨vk, vn, vs, vpl, vnl, vcl, vpm, vnm, vcm⟩ : RV).pm (⟨vk, vn, vs, vpl, vnl, vcl, vpm, vnm, vcm⟩ : RV).nm (⟨vk, vn, vs, vpl, vnl, vcl, vpm, vnm, vcm⟩ : RV).cm)).setCell ⟨w.heap.size + 1, 0, none⟩ (.int .i64 0)).setCell ⟨w.heap.size + 1 + 1, 0, none⟩ (.int .i64 0)) := ((hb6.grown hg7 (by have := hb6.size; omega) (fun k e => by cases e; exact Nat.le_refl _)).grown hg8 (by have := hb6.size; simp; omega) (fun k e => by cases e; omega)).grown hg9 (by have := hb6.size; simp; omega) (fun k e => by cases e; omega)
 have hsz : w6.heap.size <= (((((((w6.setCell ⟨w.heap.size, 0, none⟩ (.int .i64 (⟨vk, vn, vs, vpl, vnl, vcl, vpm, vnm, vcm⟩ : RV).k)).setCell ⟨w.heap.size, 1, none⟩ (.int .i64 (⟨vk, vn, vs, vpl, vnl, vcl, vpm, vnm, vcm⟩ : RV).n)).setCell ⟨w.heap.size, 2, none⟩ (.string (⟨vk, vn, vs, vpl, vnl, vcl, vpm, vnm, vcm⟩ : RV).s)).setCell ⟨w.heap.size, 3, none⟩ (.slice (⟨vk, vn, vs, vpl, vnl, vcl, vpm, vnm, vcm⟩ : RV).pl (⟨vk, vn, vs, vpl, vnl, vcl, vpm, vnm, vcm⟩ : RV).nl (⟨vk, vn, vs, vpl, vnl, vcl, vpm, vnm, vcm⟩ : RV).cl)).setCell ⟨w.heap.size, 4, none⟩ (.slice (⟨vk, vn, vs, vpl, vnl, vcl, vpm, vnm, vcm⟩ : RV).pm (⟨vk, vn, vs, vpl, vnl, vcl, vpm, vnm, vcm⟩ : RV).nm (⟨vk, vn, vs, vpl, vnl, vcl, vpm, vnm, vcm⟩ : RV).cm)).setCell ⟨w.heap.size + 1, 0, none⟩ (.int .i64 0)).setCell ⟨w.heap.size + 1 + 1, 0, none⟩ (.int .i64 0)).heap.size := by simp
 have hgn := hg4.size
 have ht9 := ht6.same (w' := (((((((w6.setCell ⟨w.heap.size, 0, none⟩ (.int .i64 (⟨vk, vn, vs, vpl, vnl, vcl, vpm, vnm, vcm⟩ : RV).k)).setCell ⟨w.heap.size, 1, none⟩ (.int .i64 (⟨vk, vn, vs, vpl, vnl, vcl, vpm, vnm, vcm⟩ : RV).n)).setCell ⟨w.heap.size, 2, none⟩ (.string (⟨vk, vn, vs, vpl, vnl, vcl, vpm, vnm, vcm⟩ : RV).s)).setCell ⟨w.heap.size, 3, none⟩ (.slice (⟨vk, vn, vs, vpl, vnl, vcl, vpm, vnm, vcm⟩ : RV).pl (⟨vk, vn, vs, vpl, vnl, vcl, vpm, vnm, vcm⟩ : RV).nl (⟨vk, vn, vs, vpl, vnl, vcl, vpm, vnm, vcm⟩ : RV).cl)).setCell ⟨w.heap.size, 4, none⟩ (.slice (⟨vk, vn, vs, vpl, vnl, vcl, vpm, vnm, vcm⟩ : RV).pm (⟨vk, vn, vs, vpl, vnl, vcl, vpm, vnm, vcm⟩ : RV).nm (⟨vk, vn, vs, vpl, vnl, vcl, vpm, vnm, vcm⟩ : RV).cm)).setCell ⟨w.heap.size + 1, 0, none⟩ (.int .i64 0)).setCell ⟨w.heap.size + 1 + 1, 0, none⟩ (.int .i64 0))) (fun k hk => by
  have := hk.1
  have := hk.2
  exact ((hg9.block k (by simp; omega) (fun e => by cases e; omega)).trans (hg8.block k (by simp; omega) (fun e => by cases e; omega))).trans (hg7.block k (by omega) (fun e => by cases e; omega)))
 have hto : TreeOf (((((((w6.setCell ⟨w.heap.size, 0, none⟩ (.int .i64 (⟨vk, vn, vs, vpl, vnl, vcl, vpm, vnm, vcm⟩ : RV).k)).setCell ⟨w.heap.size, 1, none⟩ (.int .i64 (⟨vk, vn, vs, vpl, vnl, vcl, vpm, vnm, vcm⟩ : RV).n)).setCell ⟨w.heap.size, 2, none⟩ (.string (⟨vk, vn, vs, vpl, vnl, vcl, vpm, vnm, vcm⟩ : RV).s)).setCell ⟨w.heap.size, 3, none⟩ (.slice (⟨vk, vn, vs, vpl, vnl, vcl, vpm, vnm, vcm⟩ : RV).pl (⟨vk, vn, vs, vpl, vnl, vcl, vpm, vnm, vcm⟩ : RV).nl (⟨vk, vn, vs, vpl, vnl, vcl, vpm, vnm, vcm⟩ : RV).cl)).setCell ⟨w.heap.size, 4, none⟩ (.slice (⟨vk, vn, vs, vpl, vnl, vcl, vpm, vnm, vcm⟩ : RV).pm (⟨vk, vn, vs, vpl, vnl, vcl, vpm, vnm, vcm⟩ : RV).nm (⟨vk, vn, vs, vpl, vnl, vcl, vpm, vnm, vcm⟩ : RV).cm)).setCell ⟨w.heap.size + 1, 0, none⟩ (.int .i64 0)).setCell ⟨w.heap.size + 1 + 1, 0, none⟩ (.int .i64 0)) (((((((w6.setCell ⟨w.heap.size, 0, none⟩ (.int .i64 (⟨vk, vn, vs, vpl, vnl, vcl, vpm, vnm, vcm⟩ : RV).k)).setCell ⟨w.heap.size, 1, none⟩ (.int .i64 (⟨vk, vn, vs, vpl, vnl, vcl, vpm, vnm, vcm⟩ : RV).n)).setCell ⟨w.heap.size, 2, none⟩ (.string (⟨vk, vn, vs, vpl, vnl, vcl, vpm, vnm, vcm⟩ : RV).s)).setCell ⟨w.heap.size, 3, none⟩ (.slice (⟨vk, vn, vs, vpl, vnl, vcl, vpm, vnm, vcm⟩ : RV).pl (⟨vk, vn, vs, vpl, vnl, vcl, vpm, vnm, vcm⟩ : RV).nl (⟨vk, vn, vs, vpl, vnl, vcl, vpm, vnm, vcm⟩ : RV).cl)).setCell ⟨w.heap.size, 4, none⟩ (.slice (⟨vk, vn, vs, vpl, vnl, vcl, vpm, vnm, vcm⟩ : RV).pm (⟨vk, vn, vs, vpl, vnl, vcl, vpm, vnm, vcm⟩ : RV).nm (⟨vk, vn, vs, vpl, vnl, vcl, vpm, vnm, vcm⟩ : RV).cm)).setCell ⟨w.heap.size + 1, 0, none⟩ (.int .i64 0)).setCell ⟨w.heap.size + 1 + 1, 0, none⟩ (.int .i64 0)).heap.size v (⟨vk, vn, vs, vpl, vnl, vcl, vpm, vnm, vcm⟩ : RV) := ht9.tree (fun k hk => Nat.lt_of_lt_of_le (by have := hk.2; omega) hsz)
 have HTO := Lib.hid hto
 have HB9 := Lib.hid hb9
 have HV9 := Lib.hid hv9
 have HN9 := Lib.hid hN9'
 have HN10 := Lib.hid hN10
 dsimp only at HTO HB9 HV9 HN9 HN10
 clear hto hb9 hv9 hN9 hN9' hN10 hg7 hg8 hg9 hv7 hsz hgn ht9 ht6 hb6 hv6 hN7 hN8 hg4 hg5 hg45 hg6 ht5 hr5 hr4
 go_wp2_with fail
 refine leaves_cons (f := 69) (args := #[.pointer (some ⟨w.heap.size, 0, none⟩), .pointer (some ⟨w.heap.size + 1, 0, none⟩), .pointer (some ⟨w.heap.size + 1 + 1, 0, none⟩)]) (by simp) (by simp [go_sem]) ?_
 refine (readCatch_idle _ _ _ _).mono ?_
 rintro e u' w'' ⟨rfl, rfl, rfl⟩
 obtain ⟨W9, hW9⟩ : ∃ W, ((((((w6.setCell ⟨w.heap.size, 0, none⟩ (.int .i64 vk)).setCell ⟨w.heap.size, 1, none⟩ (.int .i64 vn)).setCell ⟨w.heap.size, 2, none⟩ (.string vs)).setCell ⟨w.heap.size, 3, none⟩ (.slice vpl vnl vcl)).setCell ⟨w.heap.size, 4, none⟩ (.slice vpm vnm vcm)).setCell ⟨w.heap.size + 1, 0, none⟩ (.int .i64 0)).setCell ⟨w.heap.size + 1 + 1, 0, none⟩ (.int .i64 0) = W := ⟨_, rfl⟩
 rw [hW9] at HTO HB9 HV9 HN9 HN10
 rw [hW9]
 clear hW9 v0 v1 v2 v3 v4 y0 y1 y2 y3 y4 x1 x2 y11 y12 c0
 obtain ⟨u0, u1, u2, u3, u4⟩ := HV9.out.cells5
 dsimp only at u0 u1 u2 u3 u4
 have x1 := HN9.out.cell
 have x2 := HN10.out.cell
 have HR : ReadRet w v (.returned (.tuple #[RV.val (⟨vk, vn, vs, vpl, vnl, vcl, vpm, vnm, vcm⟩ : RV), .int .i64 0, .int .i64 0])) W9 := ⟨_, rfl, HTO.out, HB9.out⟩
 simp only [RV.val] at HR
 simp [Leaves, settle, results, Tryz.results26, go_sem, u0, u1, u2, u3, u4, x1, x2]
 exact HR
mutual
def txtT : JV -> List UInt8
 | .mk k n s l m => if k = 1 then [110, 117, 108, 108] else if k = 2 then (if n = 1 then [116, 114, 117, 101] else [102, 97, 108, 115, 101]) else if k = 3 then numL n else if k = 4 then quoL s
  else if k = 5 then 91 :: txtL l true ++ [93] else 123 :: txtM m true ++ [125]
def txtL : List JV -> Bool -> List UInt8
 | [], _ => []
 | t :: l, b => (if b then [] else [44]) ++ txtT t ++ txtL l false
def txtM : List (ByteArray × JV) -> Bool -> List UInt8
 | [], _ => []
 | (s, t) :: m, b => (if b then [] else [44]) ++ (quoL s ++ (58 :: txtT t)) ++ txtM m false
end
mutual
def bkT : JV -> Nat
 | .mk _ _ s l m => 1 + s.size + bkL l + bkM m
def bkL : List JV -> Nat
 | [] => 0
 | t :: l => 1 + bkT t + bkL l
def bkM : List (ByteArray × JV) -> Nat
 | [] => 0
 | (s, t) :: m => 2 + s.size + bkT t + bkM m
end
theorem quoL_len (s : ByteArray) : (quoL s).length <= 6 * s.size + 2 := by
 unfold quoL
 split
 ·have := quoM_len s.data.toList
  have := str_len s
  simp
  omega
 ·simp
theorem comma_len (b : Bool) : (if b then ([] : List UInt8) else [44]).length <= 1 := by cases b <;> simp
mutual
theorem txtT_len : ∀ t : JV, t.Ok -> (txtT t).length <= 22 * bkT t
 | .mk k n s l m, h => by
   cases h with
   | mk wk wn bs bl bm okl oks okm =>
   rw [bkT, txtT]
   have h1 := numL_len wn
   have h2 := quoL_len s
   have h3 := txtL_len l true (fun x hx => by obtain ⟨i, hi⟩ := List.getElem?_of_mem hx; exact okl i x hi)
   have h4 := txtM_len m true (fun x hx => by obtain ⟨i, hi⟩ := List.getElem?_of_mem hx; exact okm i x hi)
   repeat' split
   all_goals simp
   all_goals omega
theorem txtL_len : ∀ (l : List JV) (b : Bool), (∀ t ∈ l, t.Ok) -> (txtL l b).length <= 22 * bkL l
 | [], b, _ => by rw [txtL]; simp
 | t :: l, b, h => by
   have h1 := txtT_len t (h t (by simp))
   have h2 := txtL_len l false (fun x hx => h x (List.mem_cons_of_mem _ hx))
   have h3 := comma_len b
   rw [txtL, bkL, List.length_append, List.length_append]
   omega
theorem txtM_len : ∀ (m : List (ByteArray × JV)) (b : Bool), (∀ p ∈ m, p.2.Ok) -> (txtM m b).length <= 22 * bkM m
 | [], b, _ => by rw [txtM]; simp
 | (s, t) :: m, b, h => by
   have h1 := txtT_len t (h (s, t) (by simp))
   have h2 := txtM_len m false (fun x hx => h x (List.mem_cons_of_mem _ hx))
   have h3 := comma_len b
   have h4 := quoL_len s
   rw [txtM, bkM, List.length_append, List.length_append, List.length_append, List.length_cons]
   omega
end
theorem txtL_snoc (t : JV) : ∀ (l : List JV) (b : Bool), txtL (l ++ [t]) b = txtL l b ++ ((if l.isEmpty && b then [] else [44]) ++ txtT t)
 | [], b => by rw [List.nil_append, txtL, txtL, txtL]; simp
 | x :: l, b => by
   rw [List.cons_append, txtL, txtL_snoc t l false, txtL]
   simp
theorem txtM_snoc (p : ByteArray × JV) : ∀ (m : List (ByteArray × JV)) (b : Bool), txtM (m ++ [p]) b = txtM m b ++ ((if m.isEmpty && b then [] else [44]) ++ (quoL p.1 ++ (58 :: txtT p.2)))
 | [], b => by obtain ⟨s, t⟩ := p; rw [List.nil_append, txtM, txtM, txtM]; simp
 | (s, t) :: m, b => by
   rw [List.cons_append, txtM, txtM_snoc p m false, txtM]
   simp
theorem bkL_at : ∀ (l : List JV) (j : Nat) (t : JV), l[j]? = some t -> bkL (l.take j) + 1 + bkT t <= bkL l
 | [], j, t, h => by simp at h
 | x :: l, 0, t, h => by simp at h; subst h; rw [List.take_zero, bkL, bkL]; omega
 | x :: l, j + 1, t, h => by rw [List.take_succ_cons, bkL, bkL]; have := bkL_at l j t (by simpa using h); omega
theorem bkM_at : ∀ (m : List (ByteArray × JV)) (j : Nat) (p : ByteArray × JV), m[j]? = some p -> bkM (m.take j) + 2 + p.1.size + bkT p.2 <= bkM m
 | [], j, t, h => by simp at h
 | (s, x) :: m, 0, t, h => by simp at h; subst h; rw [List.take_zero, bkM, bkM]; dsimp only; omega
 | (s, x) :: m, j + 1, t, h => by rw [List.take_succ_cons, bkM, bkM]; have := bkM_at m j t (by simpa using h); omega
structure WrTo (w : World) (base : Nat) (v : Value) (L : List UInt8) (v' : Value) (w' : World) : Prop where
 own : OwnU w' base v' L
 grown : w.grownBy w' v.ownBlock
 row : v'.ownBlock = v.ownBlock \/ ∀ k, v'.ownBlock = some k -> w.heap.size <= k
def WrRet (w : World) (base : Nat) (v : Value) (L : List UInt8) (e : Ending) (w' : World) : Prop := ∃ v', e = .returned v' /\ WrTo w base v L v' w'
section
variable {w w1 w2 : World} {base : Nat} {v v1 v2 : Value} {L L1 L2 : List UInt8}
theorem WrTo.refl (h : OwnU w base v L) : WrTo w base v L v w := ⟨h, World.grownBy.refl _ _, .inl rfl⟩
theorem WrTo.trans (h : WrTo w base v L1 v1 w1) (h' : WrTo w1 base v1 L2 v2 w2) : WrTo w base v L2 v2 w2 := by
 have hs := h.grown.size
 refine ⟨h'.own, ⟨h'.grown.os.trans h.grown.os, h'.grown.tape.trans h.grown.tape, h'.grown.output.trans h.grown.output, Nat.le_trans hs h'.grown.size, fun k hk hr => ?_⟩, ?_⟩
 ·refine (h'.grown.block k (by omega) (fun e => ?_)).trans (h.grown.block k hk hr)
  rcases h.row with h1 | h1
  ·exact hr (by rw [<- h1]; exact e)
  ·have := h1 k e.symm; omega
 ·rcases h'.row with h1 | h1
  ·rw [h1]; exact h.row
  ·exact .inr (fun k e => Nat.le_trans hs (h1 k e))
theorem WrTo.alloc (h : WrTo w base v L v1 w1) (o : Obj) : WrTo w base v L v1 (w1.alloc o) :=
 ⟨h.own.alloc o, h.grown.trans (World.grownBy_alloc _ _ _), h.row⟩
theorem WrTo.drew (h : WrTo w base v L v1 w1) : WrTo w base v L v1 w1.drew := ⟨h.own, ⟨h.grown.os, h.grown.tape, h.grown.output, h.grown.size, h.grown.block⟩, h.row⟩
theorem WrTo.below {b : Nat} (h : WrTo w base v L v1 w1) (h0 : ∀ k, v.ownBlock = some k -> b <= k) (hb : b <= w.heap.size) : Below b w w1 := (Below.refl b w).grown h.grown hb h0
theorem WrTo.vat {g : Nat} {r : RV} (h : WrTo w base v L v1 w1) (ha : VAt w g r) (hne : v.ownBlock ≠ some g) : VAt w1 g r := (h.grown.block g ha.lt (fun e => hne e.symm)).trans ha
theorem WrTo.lead (h : WrTo w base v L v1 w1) {w0 : World} (h0 : w0.grownBy w none) (hv : ∀ k, v.ownBlock = some k -> k < w0.heap.size) : WrTo w0 base v L v1 w1 := by
 refine ⟨h.own, ⟨h.grown.os.trans h0.os, h.grown.tape.trans h0.tape, h.grown.output.trans h0.output, Nat.le_trans h0.size h.grown.size, fun k hk hr => ?_⟩, ?_⟩
 ·exact (h.grown.block k (by have := h0.size; omega) hr).trans (h0.block k hk (fun e => by cases e))
 ·rcases h.row with h1 | h1
  ·exact .inl h1
  ·exact .inr (fun k e => Nat.le_trans h0.size (h1 k e))
end
theorem run_append_str3 (w : World) (ty : TypeId) {base : Nat} {v : Value} {l : List UInt8} (hown : OwnU w base v l) (s : ByteArray) (hlen : l.length + s.size <= 140737488355328) (hbase : base <= w.heap.size) :
 ∃ v' w', (Builtin.append_ #[95, 9] ty #[v, .string s]).run Tryz.prog w = .ok v' w' /\ WrTo w base v (l ++ s.data.toList) v' w' := by
 obtain ⟨i, hi, hz, hs1, hby⟩ := info_parts infoU
 have hO : w.ownsRow base 5 1 v l.length (cellsOf encU l) := hown
 have hxl : (cellsOf encU l).length = l.length := by simpa using hO.1
 obtain ⟨v', w', hr, h2, h3, h4⟩ := Lib.run_append_own_string (P := Tryz.prog) w base 95 9 ty 5 i Tryz.underlying95 Tryz.underlying9 hi hz hs1 hby v l.length (cellsOf encU l) hO s (by unfold maxLen; omega) hlen hbase
 refine ⟨v', w', hr, ?_, h3, ?_⟩
 ·unfold OwnU Own
  rw [cellsOf_append, List.length_append, str_len, <- cells_str]
  exact h2
 ·rcases hO.2 with ⟨rfl, hn⟩ | ⟨g, cap, cur, rfl, hbg, hg, hnc, hcm, hcs, htake⟩
  ·by_cases hm : s.size = 0
   ·left
    rw [h4.2 ⟨rfl, hm⟩]
   ·right
    have hr2 := run_append_nil_string (P := Tryz.prog) w 95 9 ty 5 i (.int .u8 0) Tryz.underlying95 Tryz.underlying9 hi hz s (by omega) (by omega) (by rw [hby]; omega)
    rw [hr2] at hr
    injection hr with e1 e2
    intro k hk
    rw [<- e1] at hk
    simp [Value.ownBlock] at hk
    omega
  ·by_cases hroom : l.length + s.size <= cap
   ·left
    have hr2 := Lib.run_append_room_string (P := Tryz.prog) w 95 9 ty 5 i Tryz.underlying95 Tryz.underlying9 hi hs1 g l.length cap cur hg s hroom (by omega)
    rw [hr2] at hr
    injection hr with e1 e2
    rw [<- e1]
    rfl
   ·right
    have holds : ∀ j u, (cellsOf encU l)[j]? = some u -> w.cell? ((⟨g, 0, none⟩ : Addr).add j) = some u := hO.cells (g := g) rfl
    have hr2 := Lib.run_append_grow_string (P := Tryz.prog) w 95 9 ty 5 i (.int .u8 0) Tryz.underlying95 Tryz.underlying9 hi hz ⟨g, 0, none⟩ l.length cap (cellsOf encU l) (by rw [hs1]; omega) holds s (by omega) (by omega) (by rw [hby]; exact growslice_fits (by omega) (by omega))
    rw [hr2] at hr
    injection hr with e1 e2
    intro k hk
    rw [<- e1] at hk
    simp [Value.ownBlock] at hk
    omega
theorem wp_append_str3 {o : Oper} {a : Act} {K : Act -> World -> Prop} {Q : Exit -> Act -> World -> Prop} (w : World) (s x : Operand)
 (ho : o.op = .call { callee := .builtin .append, args := #[s, x], argTypes := #[95, 9] }) {base : Nat} {v : Value} {l : List UInt8} {t : ByteArray} (hs : a.eval s = v) (hx : a.eval x = .string t) (hown : OwnU w base v l)
 (hlen : l.length + t.size <= 140737488355328) (hbase : base <= w.heap.size)
 (h : ∀ v' w', WrTo w base v (l ++ t.data.toList) v' w' -> K (a.put o.dst v') w') : o.wp Tryz.prog a w K Q := by
 obtain ⟨v', w', hr, h2⟩ := run_append_str3 w o.type hown t hlen hbase
 unfold Oper.wp execOp
 simp only [ho, resolve, invoke, builtin, Sem.run_bind, Sem.run_pure, Result.andThen_ok, List.map_toArray, List.map_cons, List.map_nil, hs, hx, hr]
 exact h v' w' h2
theorem wpList_append_str3 {ops : Array Oper} {rest : List Oper} {o : Oper} {a : Act} {Q : Exit -> Act -> World -> Prop} (w : World) (hgd : o.guard = none) (s x : Operand)
 (ho : o.op = .call { callee := .builtin .append, args := #[s, x], argTypes := #[95, 9] }) {base : Nat} {v : Value} {l : List UInt8} {t : ByteArray} (hs : a.eval s = v) (hx : a.eval x = .string t) (hown : OwnU w base v l)
 (hlen : l.length + t.size <= 140737488355328) (hbase : base <= w.heap.size)
 (h : ∀ v' w', WrTo w base v (l ++ t.data.toList) v' w' -> wpList Tryz.prog ops Q rest (a.put o.dst v') w') : wpList Tryz.prog ops Q (o :: rest) a w :=
 wpList_plain hgd fun _ hK => wp_append_str3 w s x ho hs hx hown hlen hbase fun v' w' h2 => hK _ _ (h v' w' h2)
theorem wrTo_byte {w w1 : World} {base : Nat} {v v1 : Value} {l L : List UInt8} {o : Obj} (h : OwnU w1 base v1 L) (hg : (w.alloc o).grownBy w1 v.ownBlock) (hat : v1.ownBlock = v.ownBlock \/ v1.ownBlock = some (w.alloc o).heap.size) (hv : OwnU w base v l) : WrTo w base v L v1 w1 := by
 refine ⟨h, (World.grownBy_alloc w o _).trans hg, ?_⟩
 rcases hat with h1 | h1
 ·exact .inl h1
 ·refine .inr (fun k e => ?_)
  rw [h1] at e
  cases e
  simp
theorem rd_byte (w : World) (c : UInt8) (n : Int) (hn : n = (c.toNat : Int)) : Rd (w.alloc (.cells #[.int .u8 n] 5)) (w.heap.size + 1) encU 1 (.slice (some ⟨w.heap.size, 0, none⟩) 1 1) [c] := by
 subst hn
 exact Rd.one codecU (heap_alloc_at rfl) rfl (by omega)
theorem wpList_append_b {ops : Array Oper} {rest : List Oper} {o : Oper} {a : Act} {Q : Exit -> Act -> World -> Prop} (W : World) (hgd : o.guard = none) (s x : Operand)
 (ho : o.op = .call { callee := .builtin .append, args := #[s, x], argTypes := #[95, 95] }) {base : Nat} {v : Value} {l : List UInt8} (c : UInt8) {n : Int} (hs : a.eval s = v) (hx : a.eval x = .slice (some ⟨W.heap.size, 0, none⟩) 1 1) (hown : OwnU W base v l)
 (hn : n = (c.toNat : Int)) (hlen : l.length + 1 <= 140737488355328) (hbase : base <= W.heap.size)
 (h : ∀ v' w', WrTo W base v (l ++ [c]) v' w' -> wpList Tryz.prog ops Q rest (a.put o.dst v') w') : wpList Tryz.prog ops Q (o :: rest) a (W.alloc (.cells #[.int .u8 n] 5)) :=
 wpList_append_rd slU codecU _ hgd s x ho hs hx (hown.alloc _) (rd_byte W c n hn) (by unfold maxLen; simp only [List.length_singleton]; omega) (by simp only [List.length_singleton]; omega) (by simp; omega)
  fun v' w' h1 h2 h3 => h v' w' (wrTo_byte h1 h2 h3 hown)
theorem toB_list (l : List UInt8) : (toB l).data.toList = l := by simp [toB]
theorem emitQuote_any (v : Value) (l : List UInt8) (s : ByteArray) (w : World) (base : Nat) (hown : OwnU w base v l) (hbase : base <= w.heap.size) (hs : s.size <= 1048576) (hl : l.length <= 1099511627776) :
 Calls Tryz.prog 112 #[v, .string s] w (WrRet w base v (l ++ quoL s)) := by
 have HC := Lib.hid (quote_any s w (by omega))
 have HO := Lib.hid hown
 have hlq : l.length + (toB (quoL s)).size <= 140737488355328 := by rw [toB_size]; have := quoL_len s; omega
 clear hown
 go_enter Tryz.func112, Tryz.ntmps112
 go_upto_region 2 with (go_at_call 137; refine HC.out.mono ?_; rintro e w1 ⟨rfl, hb1⟩)
 have hz := hb1.size
 have hO1 := HO.out.below hb1 (Nat.le_refl _)
 go_wp2_with (at_builtin; refine wpList_append_str3 _ rfl _ _ rfl rfl rfl hO1 hlq (by omega) ?_; intro v1 w2 h2)
 go_ret
 rw [toB_list] at h2
 exact ⟨v1, rfl, h2.lead ⟨hb1.os, hb1.tape, hb1.output, hb1.size, fun k hk _ => hb1.block k hk⟩ (fun k e => (HO.out.lt k e).2)⟩
end
end Go.Proofs.YtfgjimpmpckgpaaGreatDoor
