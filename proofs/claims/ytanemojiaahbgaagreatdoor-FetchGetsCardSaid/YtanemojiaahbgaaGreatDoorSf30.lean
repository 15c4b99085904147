import Derived.Test.YtanemojiaahbgaaGreatDoorSf29
import Derived.Shelf.Small.Strs
import Derived.Shelf.Strings.Prefix
import Derived.Test.YtanemojiaahbgaaGreatDoorProg
import Derived.Test.YtanemojiaahbgaaGreatDoorSf21
section
/- A value read out of tokens; a whole text read; walked. -/
set_option linter.unusedSimpArgs false
set_option linter.unusedVariables false
namespace Go.Proofs.YtanemojiaahbgaaGreatDoor
open Go Go.RowKit Go.OpenShut


set_option maxRecDepth 100000 in
set_option maxHeartbeats 4000000 in
theorem value_list (w : World) (g en pa deep : Nat) (t : Tok) (ts : List Tok) (l : List JV) (q : Nat) (rest : List Tok) (h : RdS w g ts en pa) (hd : deep ≤ 16) (hp : pa < 8192) (hk : t.kind = 1) (hs : t.s = ⟨#[91]⟩)
    (hL : ∀ W, RdS W g ts en (pa + 1) → Calls Tryz.prog 70 #[.pointer (some ⟨g, 0, none⟩), .int .i64 deep] W (LstR W g l rest en q)) :
    Calls Tryz.prog 45 #[.pointer (some ⟨g, 0, none⟩), t.val, .int .i64 deep] w (ValR w g (.mk 5 0 ⟨#[]⟩ l []) rest en q) := by
  have hgl := h.lt
  have HLL := Lib.hid hL
  have hg0 := ((World.grownBy_alloc w t.obj none).trans (World.grownBy_alloc _ (.cells #[.int .i64 0, .int .i64 0, .string ⟨#[]⟩, .slice none 0 0, .slice none 0 0] 31) none)).trans (World.grownBy_alloc _ (.cells #[.int .i64 0, .int .i64 0, .string ⟨#[]⟩, .slice none 0 0, .slice none 0 0] 31) none)
  have hT0 : TokAt (((w.alloc t.obj).alloc (.cells #[.int .i64 0, .int .i64 0, .string ⟨#[]⟩, .slice none 0 0, .slice none 0 0] 31)).alloc (.cells #[.int .i64 0, .int .i64 0, .string ⟨#[]⟩, .slice none 0 0, .slice none 0 0] 31)) w.heap.size t := heap_alloc_lt (by simp; omega) (heap_alloc_lt (by simp) (heap_alloc_at rfl))
  have hV1 : VAt (((w.alloc t.obj).alloc (.cells #[.int .i64 0, .int .i64 0, .string ⟨#[]⟩, .slice none 0 0, .slice none 0 0] 31)).alloc (.cells #[.int .i64 0, .int .i64 0, .string ⟨#[]⟩, .slice none 0 0, .slice none 0 0] 31)) (w.heap.size + 1) RV.zero := heap_alloc_lt (by simp) (heap_alloc_at (by simp))
  have hV2 : VAt (((w.alloc t.obj).alloc (.cells #[.int .i64 0, .int .i64 0, .string ⟨#[]⟩, .slice none 0 0, .slice none 0 0] 31)).alloc (.cells #[.int .i64 0, .int .i64 0, .string ⟨#[]⟩, .slice none 0 0, .slice none 0 0] 31)) (w.heap.size + 1 + 1) RV.zero := heap_alloc_at (by simp)
  have hs0 : (((w.alloc t.obj).alloc (.cells #[.int .i64 0, .int .i64 0, .string ⟨#[]⟩, .slice none 0 0, .slice none 0 0] 31)).alloc (.cells #[.int .i64 0, .int .i64 0, .string ⟨#[]⟩, .slice none 0 0, .slice none 0 0] 31)).heap.size = w.heap.size + 3 := by simp
  have hR0 := h.kept hg0 (fun k e => by cases e)
  obtain ⟨tk, tn, tS, tp⟩ := t
  dsimp only [Tok.val, Tok.obj] at *
  subst hk
  subst hs
  have HI : Hid (∀ W, Calls Tryz.prog 69 #[.agg #[.int .i64 1, .int .i64 tn, .string ⟨#[91]⟩, .int .i64 tp], .string ⟨#[91]⟩] W fun e w' => e = .returned (.bool true) ∧ Below W.heap.size W w') := fun W => is_any ⟨1, tn, ⟨#[91]⟩, tp⟩ 91 W true (by simp [isM])
  clear h hL
  have d1 : ¬ (16 < (deep : Int)) := by omega
  have d2 : ¬ (16 < deep) := by omega
  have d3 : (deep : Int) ≤ 16 := by omega
  go_enter Tryz.func45, Tryz.ntmps45
  go_upto_region 3 with fail
  obtain ⟨W0, hW0⟩ : ∃ W0, ((w.alloc (.cells #[.int .i64 1, .int .i64 tn, .string ⟨#[91]⟩, .int .i64 tp] 84)).alloc (.cells #[.int .i64 0, .int .i64 0, .string ⟨#[]⟩, .slice none 0 0, .slice none 0 0] 31)).alloc (.cells #[.int .i64 0, .int .i64 0, .string ⟨#[]⟩, .slice none 0 0, .slice none 0 0] 31) = W0 := ⟨_, rfl⟩
  rw [hW0] at hg0 hT0 hV1 hV2 hs0 hR0
  try rw [hW0]
  clear hW0
  have a0 := hT0.cell 0 rfl
  have a1 := hT0.cell 1 rfl
  have a2 := hT0.cell 2 rfl
  have a3 := hT0.cell 3 rfl
  have HG0 := Lib.hid hg0
  have HT0 := Lib.hid hT0
  have HV1 := Lib.hid hV1
  have HV2 := Lib.hid hV2
  have HR0 := Lib.hid hR0
  have HS0 := Lib.hid hs0
  clear hg0 hT0 hV1 hV2 hR0 hs0
  go_upto_region 14 with (go_at_call 69; refine (HI.out _).mono ?_; rintro e W1 ⟨rfl, hb1⟩)
  have HB1 := Lib.hid hb1
  clear hb1
  have HVC := Lib.hid (HV2.out.keep (HB1.out.block _ HV2.out.lt))
  have HV1C := Lib.hid (HV1.out.keep (HB1.out.block _ HV1.out.lt))
  have HRC := Lib.hid (HR0.out.kept (HB1.out.gbr none) (fun k e => by cases e))
  have HGC := Lib.hid (HG0.out.trans (HB1.out.gbr none))
  have HSC : Hid (w.heap.size + 3 ≤ W1.heap.size) := by have := HB1.out.size; have := HS0.out; unfold Hid; omega
  clear a0 a1 a2 a3 HV2 HV1 HR0 HG0
  have hV2 := HVC.out
  have v0 := hV2.cell 0 rfl
  have v1 := hV2.cell 1 rfl
  have v2 := hV2.cell 2 rfl
  have v3 := hV2.cell 3 rfl
  have v4 := hV2.cell 4 rfl
  have y0 := hV2.frozen 0
  have y1 := hV2.frozen 1
  have y2 := hV2.frozen 2
  have y3 := hV2.frozen 3
  have y4 := hV2.frozen 4
  dsimp only [RV.zero] at v0 v1 v2 v3 v4
  go_upto_region 17 with fail
  have hv := hV2.setK 5
  have hg := grownBy_set W1 (w.heap.size + 1 + 1) 0 (.int .i64 5)
  have hs1 := HSC.out
  have hv1 := HV1C.out.keep (hg.block _ HV1C.out.lt (by simp))
  have hr := HRC.out.kept hg (fun k e => by cases e; omega)
  have hgw := HGC.out.new_row hg (by omega)
  have hz2 : (W1.setCell ⟨w.heap.size + 1 + 1, 0, none⟩ (.int .i64 5)).heap.size = W1.heap.size := by simp
  dsimp only [RV.zero] at hv
  obtain ⟨W2, hW2⟩ : ∃ W, W1.setCell ⟨w.heap.size + 1 + 1, 0, none⟩ (.int .i64 5) = W := ⟨_, rfl⟩
  rw [hW2] at hv hv1 hr hgw hz2
  try rw [hW2]
  clear hW2 v0 v1 v2 v3 v4 y0 y1 y2 y3 y4 hV2 hg HVC HV1C HRC HGC
  obtain ⟨p0, nn0, c0, hrd, hrl⟩ := hr.ex
  have c2 := hrd.cell 2 rfl
  have z2 := hrd.frozen 2
  have hgx := grownBy_set W2 g 2 (.int .i64 ((pa : Int) + 1))
  have hR3 : RdS (W2.setCell ⟨g, 2, none⟩ (.int .i64 ((pa : Int) + 1))) g ts en (pa + 1) := ⟨p0, nn0, c0, hrd.set2' _ _ (by omega), hrl.below (below_of hgx (by have := hrd.lt; omega) (fun k e => by cases e; exact Nat.le_refl _)) (Nat.le_refl _)⟩
  have hV3 := hv1.keep (hgx.block _ hv1.lt (by simp; omega))
  have hV4 := hv.keep (hgx.block _ hv.lt (by simp; omega))
  have hG3 := hgw.keep_some hgx
  have hz3 : w.heap.size + 3 ≤ (W2.setCell ⟨g, 2, none⟩ (.int .i64 ((pa : Int) + 1))).heap.size := by simp; omega
  go_upto_region 20 with fail
  have c3 := hR3.cell2
  obtain ⟨W3, hW3⟩ : ∃ W, W2.setCell ⟨g, 2, none⟩ (.int .i64 ((pa : Int) + 1)) = W := ⟨_, rfl⟩
  rw [hW3] at hR3 hV3 hV4 hG3 c3 hz3
  try rw [hW3]
  clear hW3 c2 z2 hgx hrd hrl hv hv1 hr hgw hz2
  have v0 := hV4.cell 0 rfl
  have v1 := hV4.cell 1 rfl
  have v2 := hV4.cell 2 rfl
  have v3 := hV4.cell 3 rfl
  have v4 := hV4.cell 4 rfl
  have HR3 := Lib.hid hR3
  have HV3 := Lib.hid hV3
  have HV4 := Lib.hid hV4
  have HG3 := Lib.hid hG3
  have HZ3 := Lib.hid hz3
  clear hR3 hV3 hV4 hG3 hz3
  go_upto_region 27 with (go_at_call 70; refine (HLL.out _ HR3.out).mono ?_; rintro e w5 ⟨p5, n5, c5, rfl, hgr5, hr5, hg5⟩; (have hV5 := HV4.out.keep (hg5.block (w.heap.size + 1 + 1) HV4.out.lt (by simp; omega))); (have u0 := hV5.cell 0 rfl); (have u1 := hV5.cell 1 rfl); (have u2 := hV5.cell 2 rfl); (have u3 := hV5.cell 3 rfl); (have u4 := hV5.cell 4 rfl); (have y0 := hV5.frozen 0); (have y1 := hV5.frozen 1); (have y2 := hV5.frozen 2); (have y3 := hV5.frozen 3); (have y4 := hV5.frozen 4))
  have hv6 := hV5.setLs p5 n5 c5
  have hg6 := grownBy_set w5 (w.heap.size + 1 + 1) 3 (.slice p5 n5 c5)
  have hv7 := (HV3.out.keep (hg5.block _ HV3.out.lt (by simp; omega))).keep (hg6.block (w.heap.size + 1) (Nat.lt_of_lt_of_le HV3.out.lt hg5.size) (by simp))
  have hr6 := hr5.kept hg6 (fun k e => by cases e; omega)
  have hgw6 := (HG3.out.trans hg5).new_row hg6 (by omega)
  have ht5 := hgr5.whole
  have ht6 := ht5.same (w' := w5.setCell ⟨w.heap.size + 1 + 1, 3, none⟩ (.slice p5 n5 c5)) (fun k hk => hg6.block k hk.2 (fun e => by have := hk.1; have := HZ3.out; cases e; omega))
  have hz6 : (w5.setCell ⟨w.heap.size + 1 + 1, 3, none⟩ (.slice p5 n5 c5)).heap.size = w5.heap.size := by simp
  obtain ⟨W6, hW6⟩ : ∃ W, w5.setCell ⟨w.heap.size + 1 + 1, 3, none⟩ (.slice p5 n5 c5) = W := ⟨_, rfl⟩
  rw [hW6] at hv6 hv7 hr6 hgw6 ht6 hz6
  try rw [hW6]
  dsimp only at hv6
  clear hW6 v0 v1 v2 v3 v4 u0 u1 u2 u3 u4 y0 y1 y2 y3 y4 c3 hg6 hV5 ht5
  have v0 := hv6.cell 0 rfl
  have v1 := hv6.cell 1 rfl
  have v2 := hv6.cell 2 rfl
  have v3 := hv6.cell 3 rfl
  have v4 := hv6.cell 4 rfl
  have z0 := hv7.cell 0 rfl
  have z1 := hv7.cell 1 rfl
  have z2 := hv7.cell 2 rfl
  have z3 := hv7.cell 3 rfl
  have z4 := hv7.cell 4 rfl
  have y0 := hv7.frozen 0
  have y1 := hv7.frozen 1
  have y2 := hv7.frozen 2
  have y3 := hv7.frozen 3
  have y4 := hv7.frozen 4
  dsimp only [RV.zero] at v0 v1 v2 v3 v4 z0 z1 z2 z3 z4
  have HR6 := Lib.hid hr6
  have HG6 := Lib.hid hgw6
  have HT6 := Lib.hid ht6
  have HZ6 := Lib.hid hz6
  have HGX := Lib.hid hg5.size
  clear hr6 hgw6 ht6 hv6 hv7 hgr5 hr5 hg5 hz6
  go_wp2_with fail
  have hg7 := grownBy_set5 W6 (w.heap.size + 1) (⟨5, 0, ⟨#[]⟩, p5, n5, c5, none, 0, 0⟩ : RV)
  have hz7 := hg7.size
  refine bodyPost_ret (v := RV.val ⟨5, 0, ⟨#[]⟩, p5, n5, c5, none, 0, 0⟩) (by simp [results, Tryz.results45, go_sem, z0, z1, z2, z3, z4]) rfl ⟨⟨5, 0, ⟨#[]⟩, p5, n5, c5, none, 0, 0⟩, rfl, ?_, HR6.out.kept hg7 (fun k e => by cases e; omega), HG6.out.new_row hg7 (by omega)⟩
  refine (HT6.out.same (fun k hk => hg7.block k (by have := HZ6.out; omega) (fun e => by have := hk.1; have := HZ3.out; cases e; omega))).mono (fun k hk => ⟨by have := hk.1; have := HZ3.out; omega, ?_⟩)
  exact Nat.lt_of_lt_of_le (show k < W6.heap.size by have := hk.2; have := HZ6.out; omega) hz7

set_option maxRecDepth 100000 in
set_option maxHeartbeats 4000000 in
theorem value_map (w : World) (g en pa deep : Nat) (t : Tok) (ts : List Tok) (l : List (ByteArray × JV)) (q : Nat) (rest : List Tok) (h : RdS w g ts en pa) (hd : deep ≤ 16) (hp : pa < 8192) (hk : t.kind = 1) (hs : t.s = ⟨#[123]⟩)
    (hL : ∀ W, RdS W g ts en (pa + 1) → Calls Tryz.prog 71 #[.pointer (some ⟨g, 0, none⟩), .int .i64 deep] W (MemR W g l rest en q)) :
    Calls Tryz.prog 45 #[.pointer (some ⟨g, 0, none⟩), t.val, .int .i64 deep] w (ValR w g (.mk 6 0 ⟨#[]⟩ [] l) rest en q) := by
  have hgl := h.lt
  have HLL := Lib.hid hL
  have hg0 := ((World.grownBy_alloc w t.obj none).trans (World.grownBy_alloc _ (.cells #[.int .i64 0, .int .i64 0, .string ⟨#[]⟩, .slice none 0 0, .slice none 0 0] 31) none)).trans (World.grownBy_alloc _ (.cells #[.int .i64 0, .int .i64 0, .string ⟨#[]⟩, .slice none 0 0, .slice none 0 0] 31) none)
  have hT0 : TokAt (((w.alloc t.obj).alloc (.cells #[.int .i64 0, .int .i64 0, .string ⟨#[]⟩, .slice none 0 0, .slice none 0 0] 31)).alloc (.cells #[.int .i64 0, .int .i64 0, .string ⟨#[]⟩, .slice none 0 0, .slice none 0 0] 31)) w.heap.size t := heap_alloc_lt (by simp; omega) (heap_alloc_lt (by simp) (heap_alloc_at rfl))
  have hV1 : VAt (((w.alloc t.obj).alloc (.cells #[.int .i64 0, .int .i64 0, .string ⟨#[]⟩, .slice none 0 0, .slice none 0 0] 31)).alloc (.cells #[.int .i64 0, .int .i64 0, .string ⟨#[]⟩, .slice none 0 0, .slice none 0 0] 31)) (w.heap.size + 1) RV.zero := heap_alloc_lt (by simp) (heap_alloc_at (by simp))
  have hV2 : VAt (((w.alloc t.obj).alloc (.cells #[.int .i64 0, .int .i64 0, .string ⟨#[]⟩, .slice none 0 0, .slice none 0 0] 31)).alloc (.cells #[.int .i64 0, .int .i64 0, .string ⟨#[]⟩, .slice none 0 0, .slice none 0 0] 31)) (w.heap.size + 1 + 1) RV.zero := heap_alloc_at (by simp)
  have hs0 : (((w.alloc t.obj).alloc (.cells #[.int .i64 0, .int .i64 0, .string ⟨#[]⟩, .slice none 0 0, .slice none 0 0] 31)).alloc (.cells #[.int .i64 0, .int .i64 0, .string ⟨#[]⟩, .slice none 0 0, .slice none 0 0] 31)).heap.size = w.heap.size + 3 := by simp
  have hR0 := h.kept hg0 (fun k e => by cases e)
  obtain ⟨tk, tn, tS, tp⟩ := t
  dsimp only [Tok.val, Tok.obj] at *
  subst hk
  subst hs
  have HI : Hid (∀ W, Calls Tryz.prog 69 #[.agg #[.int .i64 1, .int .i64 tn, .string ⟨#[123]⟩, .int .i64 tp], .string ⟨#[91]⟩] W fun e w' => e = .returned (.bool false) ∧ Below W.heap.size W w') := fun W => is_any ⟨1, tn, ⟨#[123]⟩, tp⟩ 91 W false (by simp [isM])
  have HJ : Hid (∀ W, Calls Tryz.prog 69 #[.agg #[.int .i64 1, .int .i64 tn, .string ⟨#[123]⟩, .int .i64 tp], .string ⟨#[123]⟩] W fun e w' => e = .returned (.bool true) ∧ Below W.heap.size W w') := fun W => is_any ⟨1, tn, ⟨#[123]⟩, tp⟩ 123 W true (by simp [isM])
  clear h hL
  have d1 : ¬ (16 < (deep : Int)) := by omega
  have d2 : ¬ (16 < deep) := by omega
  have d3 : (deep : Int) ≤ 16 := by omega
  go_enter Tryz.func45, Tryz.ntmps45
  go_upto_region 3 with fail
  obtain ⟨W0, hW0⟩ : ∃ W0, ((w.alloc (.cells #[.int .i64 1, .int .i64 tn, .string ⟨#[123]⟩, .int .i64 tp] 84)).alloc (.cells #[.int .i64 0, .int .i64 0, .string ⟨#[]⟩, .slice none 0 0, .slice none 0 0] 31)).alloc (.cells #[.int .i64 0, .int .i64 0, .string ⟨#[]⟩, .slice none 0 0, .slice none 0 0] 31) = W0 := ⟨_, rfl⟩
  rw [hW0] at hg0 hT0 hV1 hV2 hs0 hR0
  try rw [hW0]
  clear hW0
  have a0 := hT0.cell 0 rfl
  have a1 := hT0.cell 1 rfl
  have a2 := hT0.cell 2 rfl
  have a3 := hT0.cell 3 rfl
  have HG0 := Lib.hid hg0
  have HT0 := Lib.hid hT0
  have HV1 := Lib.hid hV1
  have HV2 := Lib.hid hV2
  have HR0 := Lib.hid hR0
  have HS0 := Lib.hid hs0
  clear hg0 hT0 hV1 hV2 hR0 hs0
  go_upto_region 15 with (go_at_call 69; refine (HI.out _).mono ?_; rintro e Wa ⟨rfl, hb1⟩)
  have hTa := HT0.out.keep (hb1.block _ HT0.out.lt)
  clear a0 a1 a2 a3
  have a0 := hTa.cell 0 rfl
  have a1 := hTa.cell 1 rfl
  have a2 := hTa.cell 2 rfl
  have a3 := hTa.cell 3 rfl
  have HB0 := Lib.hid hb1
  clear hb1 hTa
  go_upto_region 16 with (go_at_call 69; refine (HJ.out _).mono ?_; rintro e W1 ⟨rfl, hb1⟩)
  have HB1 : Hid (Below W0.heap.size W0 W1) := HB0.out.trans (hb1.mono HB0.out.size)
  clear hb1 HB0
  have HVC := Lib.hid (HV2.out.keep (HB1.out.block _ HV2.out.lt))
  have HV1C := Lib.hid (HV1.out.keep (HB1.out.block _ HV1.out.lt))
  have HRC := Lib.hid (HR0.out.kept (HB1.out.gbr none) (fun k e => by cases e))
  have HGC := Lib.hid (HG0.out.trans (HB1.out.gbr none))
  have HSC : Hid (w.heap.size + 3 ≤ W1.heap.size) := by have := HB1.out.size; have := HS0.out; unfold Hid; omega
  clear a0 a1 a2 a3 HV2 HV1 HR0 HG0
  have hV2 := HVC.out
  have v0 := hV2.cell 0 rfl
  have v1 := hV2.cell 1 rfl
  have v2 := hV2.cell 2 rfl
  have v3 := hV2.cell 3 rfl
  have v4 := hV2.cell 4 rfl
  have y0 := hV2.frozen 0
  have y1 := hV2.frozen 1
  have y2 := hV2.frozen 2
  have y3 := hV2.frozen 3
  have y4 := hV2.frozen 4
  dsimp only [RV.zero] at v0 v1 v2 v3 v4
  go_upto_region 17 with fail
  have hv := hV2.setK 6
  have hg := grownBy_set W1 (w.heap.size + 1 + 1) 0 (.int .i64 6)
  have hs1 := HSC.out
  have hv1 := HV1C.out.keep (hg.block _ HV1C.out.lt (by simp))
  have hr := HRC.out.kept hg (fun k e => by cases e; omega)
  have hgw := HGC.out.new_row hg (by omega)
  have hz2 : (W1.setCell ⟨w.heap.size + 1 + 1, 0, none⟩ (.int .i64 6)).heap.size = W1.heap.size := by simp
  dsimp only [RV.zero] at hv
  obtain ⟨W2, hW2⟩ : ∃ W, W1.setCell ⟨w.heap.size + 1 + 1, 0, none⟩ (.int .i64 6) = W := ⟨_, rfl⟩
  rw [hW2] at hv hv1 hr hgw hz2
  try rw [hW2]
  clear hW2 v0 v1 v2 v3 v4 y0 y1 y2 y3 y4 hV2 hg HVC HV1C HRC HGC
  obtain ⟨p0, nn0, c0, hrd, hrl⟩ := hr.ex
  have c2 := hrd.cell 2 rfl
  have z2 := hrd.frozen 2
  have hgx := grownBy_set W2 g 2 (.int .i64 ((pa : Int) + 1))
  have hR3 : RdS (W2.setCell ⟨g, 2, none⟩ (.int .i64 ((pa : Int) + 1))) g ts en (pa + 1) := ⟨p0, nn0, c0, hrd.set2' _ _ (by omega), hrl.below (below_of hgx (by have := hrd.lt; omega) (fun k e => by cases e; exact Nat.le_refl _)) (Nat.le_refl _)⟩
  have hV3 := hv1.keep (hgx.block _ hv1.lt (by simp; omega))
  have hV4 := hv.keep (hgx.block _ hv.lt (by simp; omega))
  have hG3 := hgw.keep_some hgx
  have hz3 : w.heap.size + 3 ≤ (W2.setCell ⟨g, 2, none⟩ (.int .i64 ((pa : Int) + 1))).heap.size := by simp; omega
  go_upto_region 20 with fail
  have c3 := hR3.cell2
  obtain ⟨W3, hW3⟩ : ∃ W, W2.setCell ⟨g, 2, none⟩ (.int .i64 ((pa : Int) + 1)) = W := ⟨_, rfl⟩
  rw [hW3] at hR3 hV3 hV4 hG3 c3 hz3
  try rw [hW3]
  clear hW3 c2 z2 hgx hrd hrl hv hv1 hr hgw hz2
  have v0 := hV4.cell 0 rfl
  have v1 := hV4.cell 1 rfl
  have v2 := hV4.cell 2 rfl
  have v3 := hV4.cell 3 rfl
  have v4 := hV4.cell 4 rfl
  have HR3 := Lib.hid hR3
  have HV3 := Lib.hid hV3
  have HV4 := Lib.hid hV4
  have HG3 := Lib.hid hG3
  have HZ3 := Lib.hid hz3
  clear hR3 hV3 hV4 hG3 hz3
  go_upto_region 27 with (go_at_call 71; refine (HLL.out _ HR3.out).mono ?_; rintro e w5 ⟨p5, n5, c5, rfl, hgr5, hr5, hg5⟩; (have hV5 := HV4.out.keep (hg5.block (w.heap.size + 1 + 1) HV4.out.lt (by simp; omega))); (have u0 := hV5.cell 0 rfl); (have u1 := hV5.cell 1 rfl); (have u2 := hV5.cell 2 rfl); (have u3 := hV5.cell 3 rfl); (have u4 := hV5.cell 4 rfl); (have y0 := hV5.frozen 0); (have y1 := hV5.frozen 1); (have y2 := hV5.frozen 2); (have y3 := hV5.frozen 3); (have y4 := hV5.frozen 4))
  have hv6 := hV5.setMs p5 n5 c5
  have hg6 := grownBy_set w5 (w.heap.size + 1 + 1) 4 (.slice p5 n5 c5)
  have hv7 := (HV3.out.keep (hg5.block _ HV3.out.lt (by simp; omega))).keep (hg6.block (w.heap.size + 1) (Nat.lt_of_lt_of_le HV3.out.lt hg5.size) (by simp))
  have hr6 := hr5.kept hg6 (fun k e => by cases e; omega)
  have hgw6 := (HG3.out.trans hg5).new_row hg6 (by omega)
  have ht5 := hgr5.whole
  have ht6 := ht5.same (w' := w5.setCell ⟨w.heap.size + 1 + 1, 4, none⟩ (.slice p5 n5 c5)) (fun k hk => hg6.block k hk.2 (fun e => by have := hk.1; have := HZ3.out; cases e; omega))
  have hz6 : (w5.setCell ⟨w.heap.size + 1 + 1, 4, none⟩ (.slice p5 n5 c5)).heap.size = w5.heap.size := by simp
  obtain ⟨W6, hW6⟩ : ∃ W, w5.setCell ⟨w.heap.size + 1 + 1, 4, none⟩ (.slice p5 n5 c5) = W := ⟨_, rfl⟩
  rw [hW6] at hv6 hv7 hr6 hgw6 ht6 hz6
  try rw [hW6]
  dsimp only at hv6
  clear hW6 v0 v1 v2 v3 v4 u0 u1 u2 u3 u4 y0 y1 y2 y3 y4 c3 hg6 hV5 ht5
  have v0 := hv6.cell 0 rfl
  have v1 := hv6.cell 1 rfl
  have v2 := hv6.cell 2 rfl
  have v3 := hv6.cell 3 rfl
  have v4 := hv6.cell 4 rfl
  have z0 := hv7.cell 0 rfl
  have z1 := hv7.cell 1 rfl
  have z2 := hv7.cell 2 rfl
  have z3 := hv7.cell 3 rfl
  have z4 := hv7.cell 4 rfl
  have y0 := hv7.frozen 0
  have y1 := hv7.frozen 1
  have y2 := hv7.frozen 2
  have y3 := hv7.frozen 3
  have y4 := hv7.frozen 4
  dsimp only [RV.zero] at v0 v1 v2 v3 v4 z0 z1 z2 z3 z4
  have HR6 := Lib.hid hr6
  have HG6 := Lib.hid hgw6
  have HT6 := Lib.hid ht6
  have HZ6 := Lib.hid hz6
  have HGX := Lib.hid hg5.size
  clear hr6 hgw6 ht6 hv6 hv7 hgr5 hr5 hg5 hz6
  go_wp2_with fail
  have hg7 := grownBy_set5 W6 (w.heap.size + 1) (⟨6, 0, ⟨#[]⟩, none, 0, 0, p5, n5, c5⟩ : RV)
  have hz7 := hg7.size
  refine bodyPost_ret (v := RV.val ⟨6, 0, ⟨#[]⟩, none, 0, 0, p5, n5, c5⟩) (by simp [results, Tryz.results45, go_sem, z0, z1, z2, z3, z4]) rfl ⟨⟨6, 0, ⟨#[]⟩, none, 0, 0, p5, n5, c5⟩, rfl, ?_, HR6.out.kept hg7 (fun k e => by cases e; omega), HG6.out.new_row hg7 (by omega)⟩
  refine (HT6.out.same (fun k hk => hg7.block k (by have := HZ6.out; omega) (fun e => by have := hk.1; have := HZ3.out; cases e; omega))).mono (fun k hk => ⟨by have := hk.1; have := HZ3.out; omega, ?_⟩)
  exact Nat.lt_of_lt_of_le (show k < W6.heap.size by have := hk.2; have := HZ6.out; omega) hz7

/-- Whatever can be read is read. -/
theorem isM_mark {t : Tok} {c : UInt8} (h : isM t c = true) : t.kind = 1 ∧ t.s = ⟨#[c]⟩ := by
  unfold isM at h
  rw [Bool.and_eq_true, decide_eq_true_eq, decide_eq_true_eq] at h
  exact h
theorem value_all : ∀ N, PV N
  | 0 => fun f hf d p t ts v q r h => by
    obtain rfl : f = 0 := by omega
    simp [parV] at h
  | N + 1 => by
    have ih := value_all N
    intro f hf d p t ts v q r h w g en hr
    cases f with
    | zero => simp [parV] at h
    | succ f =>
      have hb := (par_bd (f + 1)).1 _ _ _ _ _ _ h
      unfold parV at h
      split at h
      · cases h
      · rename_i hc
        have hp : p < 8192 := by omega
        have leaf : ∀ v', leafOf t = some v' → Calls Tryz.prog 45 #[.pointer (some ⟨g, 0, none⟩), t.val, .int .i64 d] w (ValR w g v' ts en (p + 1)) := fun v' hv => value_leaf w g en p d t ts v' hr hb.2.2 hp hv
        split at h
        · rename_i h4
          cases h
          exact leaf _ (by unfold leafOf; rw [if_pos h4])
        · rename_i h4
          split at h
          · rename_i h2
            split at h
            · rename_i h5; cases h; exact leaf _ (by unfold leafOf; rw [if_neg h4, if_pos h2, if_pos h5])
            · rename_i h5
              split at h
              · rename_i h6; cases h; exact leaf _ (by unfold leafOf; rw [if_neg h4, if_pos h2, if_neg h5, if_pos h6])
              · rename_i h6; cases h; exact leaf _ (by unfold leafOf; rw [if_neg h4, if_pos h2, if_neg h5, if_neg h6])
          · split at h
            · rename_i h2 h91
              have hm := isM_mark h91
              cases ts with
              | nil => cases h
              | cons c r' =>
                dsimp only at h
                split at h
                · rename_i h93
                  cases h
                  exact value_list w g en p d t (c :: _) [] _ _ hr hb.2.2 hp hm.1 hm.2 (fun W hW => list_none W g en (p + 1) d c _ hW h93)
                · rename_i h93
                  obtain ⟨x, hx, he⟩ := Option.map_eq_some_iff.1 h
                  cases he
                  exact value_list w g en p d t (c :: r') x.1 _ _ hr hb.2.2 hp hm.1 hm.2 (fun W hW => list_some N ih W g en (p + 1) d f c r' x.1 _ _ hW hb.2.2 (by simpa using h93) (by omega) hx)
            · split at h
              · rename_i h2 h91 h123
                have hm := isM_mark h123
                cases ts with
                | nil => cases h
                | cons c r' =>
                  dsimp only at h
                  split at h
                  · rename_i h93
                    cases h
                    exact value_map w g en p d t (c :: _) [] _ _ hr hb.2.2 hp hm.1 hm.2 (fun W hW => (members_none W g en (p + 1) d c _ hW h93).mono (fun e w' hh => ⟨none, 0, 0, hh.1, GrM.nil _ _, hh.2.1, hh.2.2⟩))
                  · rename_i h93
                    obtain ⟨x, hx, he⟩ := Option.map_eq_some_iff.1 h
                    cases he
                    exact value_map w g en p d t (c :: r') x.1 _ _ hr hb.2.2 hp hm.1 hm.2 (fun W hW => members_some N ih W g en (p + 1) d f c r' x.1 _ _ hW hb.2.2 (by simpa using h93) (by omega) hx)
              · cases h
end Go.Proofs.YtanemojiaahbgaaGreatDoor
end

section
/- Contracts of the library at this seat's numbers (the records were written by the kit's lay-shelf.mjs and lay-plain.mjs). -/
set_option linter.unusedSimpArgs false
set_option linter.unusedVariables false
namespace Go.Proofs.YtanemojiaahbgaaGreatDoor
open Go Go.Shelf
def lays137_ren : Go.Shelf.Ren := ⟨fun | 137 => 67 | 217 => 83 | 266 => 103 | n => n, fun | 9 => 9 | 5 => 5 | 3 => 3 | n => n, fun | n => n⟩
theorem lays137 : Go.Proofs.Lays.n137 Tryz.prog lays137_ren := {
  mixed := by kernel_rfl
  f137 := Tryz.func67.trans (congrArg some (by kernel_rfl))
  f217 := Tryz.func83.trans (congrArg some (by kernel_rfl))
  f266 := Tryz.func103.trans (congrArg some (by kernel_rfl))
  t3 := Tryz.underlying3
  a3 := Tryz.isAgg3
  z3 := Tryz.sizeOf3
  v3 := Tryz.zeroValue3
  t5 := Tryz.underlying5
  a5 := Tryz.isAgg5
  z5 := Tryz.sizeOf5
  v5 := Tryz.zeroValue5
  t9 := Tryz.underlying9
  a9 := Tryz.isAgg9
  z9 := Tryz.sizeOf9
  v9 := Tryz.zeroValue9 }
open Go.RowKit in
theorem strings_IndexByte (s : ByteArray) (c : Int) (w : World) :
    Calls Tryz.prog 67 #[.string s, .int .u8 c] w fun e w' => e = .returned (.int .i64 (Lib.indexByte s.data.toList c.toNat.toUInt8)) ∧ w' = w := Any.strings_IndexByte lays137 s c w
def lays99_ren : Go.Shelf.Ren := ⟨fun | 99 => 108 | 206 => 120 | n => n, fun | 9 => 9 | 4 => 4 | 3 => 3 | n => n, fun | n => n⟩
theorem lays99 : Go.Proofs.Lays.n99 Tryz.prog lays99_ren := {
  mixed := by kernel_rfl
  f99 := Tryz.func108.trans (congrArg some (by kernel_rfl))
  f206 := Tryz.func120.trans (congrArg some (by kernel_rfl))
  t3 := Tryz.underlying3
  a3 := Tryz.isAgg3
  z3 := Tryz.sizeOf3
  v3 := Tryz.zeroValue3
  t4 := Tryz.underlying4
  a4 := Tryz.isAgg4
  z4 := Tryz.sizeOf4
  v4 := Tryz.zeroValue4
  t9 := Tryz.underlying9
  a9 := Tryz.isAgg9
  z9 := Tryz.sizeOf9
  v9 := Tryz.zeroValue9 }
open Go.RowKit Go.Lib in
theorem strings_HasPrefix (s p : ByteArray) (w : World) :
    Calls Tryz.prog 108 #[.string s, .string p] w fun e w' => e = .returned (.bool (Lib.hasPrefix s.data.toList p.data.toList)) ∧ w' = w := Any.strings_HasPrefix lays99 s p w
end Go.Proofs.YtanemojiaahbgaaGreatDoor
end

section
/- The tokens of a plain text, walked: scan.Tokens and what it calls. -/
set_option linter.unusedSimpArgs false
set_option linter.unusedVariables false
namespace Go.Proofs.YtanemojiaahbgaaGreatDoor
open Go Go.RowKit Go.OpenShut

theorem infoTok : (Tryz.prog.info? 84).map (fun i => (i.zero, i.size, i.bytes)) = some (some (.agg #[.int .i64 0, .int .i64 0, .string ByteArray.empty, .int .i64 0]), 4, 40) := by kernel_rfl
theorem slTok : SlT Tryz.prog 73 84 4 40 := SlT.mk Tryz.underlying73 infoTok rfl
/-- The scanner: the text, where it is, the tokens so far. -/
def ScAt (W : World) (g : Nat) (s : ByteArray) (i : Nat) (v : Value) : Prop := W.heap[g]? = some (.cells #[.string s, .int .i64 i, v] 112 (0, 0))
theorem ScAt.lt {W : World} {g i : Nat} {s : ByteArray} {v : Value} (h : ScAt W g s i v) : g < W.heap.size := (Array.getElem?_eq_some_iff.1 h).1
theorem ScAt.cell {W : World} {g i : Nat} {s : ByteArray} {v : Value} (h : ScAt W g s i v) (j : Nat) {u : Value} (hu : [Value.string s, .int .i64 i, v][j]? = some u) : W.cell? ⟨g, j, none⟩ = some u := by
  unfold ScAt at h
  rw [cell_of_row W g j _ _ _ h, ← Array.getElem?_toList]
  exact hu
theorem ScAt.frozen {W : World} {g i : Nat} {s : ByteArray} {v : Value} (h : ScAt W g s i v) (j : Nat) : W.frozen? ⟨g, j, none⟩ = false := by
  unfold ScAt at h
  simp [World.frozen?, h]
theorem ScAt.under {W W' : World} {g i B : Nat} {s : ByteArray} {v : Value} (h : ScAt W g s i v) (hb : Below B W W') (hg : g < B) : ScAt W' g s i v := (hb.block g hg).trans h
theorem ScAt.keptR {W W' : World} {g i : Nat} {s : ByteArray} {v : Value} {row : Option Nat} (h : ScAt W g s i v) (hg : W.grownBy W' row) (hne : row ≠ some g) : ScAt W' g s i v := (hg.block g h.lt (fun e => hne e.symm)).trans h
theorem ScAt.set1 {W : World} {g i : Nat} {s : ByteArray} {v : Value} (h : ScAt W g s i v) (k : Nat) : ScAt (W.setCell ⟨g, 1, none⟩ (.int .i64 k)) g s k v := by
  unfold ScAt at h ⊢
  simp [World.setCell, Array.getElem?_modify, h]
theorem ScAt.set2 {W : World} {g i : Nat} {s : ByteArray} {v : Value} (h : ScAt W g s i v) (u : Value) : ScAt (W.setCell ⟨g, 2, none⟩ u) g s i u := by
  unfold ScAt at h ⊢
  simp [World.setCell, Array.getElem?_modify, h]
/-- The scanner with its tokens in memory of its own. -/
structure ScS (w W : World) (g : Nat) (s : ByteArray) (i : Nat) (l : List Tok) : Prop where
  ex : ∃ v, ScAt W g s i v ∧ Own W (g + 1) 84 encTok 4 v l
  below : Below g w W

set_option maxRecDepth 100000 in
set_option maxHeartbeats 2000000 in
theorem lay_any (w : World) (g i k n a : Nat) (s x : ByteArray) (kd : Int) (l : List Tok) (hS : ScS w w g s i l) (hl : l.length ≤ 65536) :
    Calls Tryz.prog 85 #[.pointer (some ⟨g, 0, none⟩), .agg #[.int .i64 kd, .int .i64 n, .string x, .int .i64 a], .int .i64 k] w fun e w' => e = .returned (.tuple #[]) ∧ ScS w w' g s k (l ++ [⟨kd, n, x, i⟩]) := by
  obtain ⟨⟨v, h1, h2⟩, h3⟩ := hS
  obtain ⟨p0, n0, c0', rfl⟩ : ∃ p n c, v = Value.slice p n c := (by obtain ⟨p, c, hv, _, _⟩ := h2.len; exact ⟨p, _, c, hv⟩)
  have hg := h1.lt
  have hA : Below w.heap.size w (w.alloc (.cells #[.int .i64 kd, .int .i64 n, .string x, .int .i64 a] 84)) := (Below.refl _ _).alloc (Nat.le_refl _) _
  have hB : (w.alloc (.cells #[.int .i64 kd, .int .i64 n, .string x, .int .i64 a] 84)).heap[w.heap.size]? = some (.cells #[.int .i64 kd, .int .i64 n, .string x, .int .i64 a] 84 (0, 0)) := heap_alloc_at rfl
  have hs1 : (w.alloc (.cells #[.int .i64 kd, .int .i64 n, .string x, .int .i64 a] 84)).heap.size = w.heap.size + 1 := by simp
  obtain ⟨W1, hW1⟩ : ∃ W1, w.alloc (.cells #[.int .i64 kd, .int .i64 n, .string x, .int .i64 a] 84) = W1 := ⟨_, rfl⟩
  rw [hW1] at hA hB hs1
  have HLT : Hid (∀ k, (Value.slice p0 n0 c0').ownBlock = some k → g + 1 ≤ k ∧ k < w.heap.size) := h2.lt
  have HC1 := Lib.hid (h1.under hA hg)
  have HO1 := Lib.hid (h2.below hA (Nat.le_refl _))
  have H3 := Lib.hid (h3.trans (hA.mono (Nat.le_of_lt hg)))
  have HS1 := Lib.hid hs1
  have HL : Hid (l.length ≤ 65536) := hl
  clear h1 h2 h3 hA hs1 hl
  go_enter Tryz.func85, Tryz.ntmps85
  go_upto_region 1 with fail
  try rw [hW1]
  clear hW1
  have c1 := HC1.out.cell 1 (u := .int .i64 i) rfl
  have t3 : W1.cell? ⟨w.heap.size, 3, none⟩ = some (.int .i64 a) := by rw [cell_of_row W1 w.heap.size 3 _ _ _ hB]; rfl
  have t4 : W1.frozen? ⟨w.heap.size, 3, none⟩ = false := by simp [World.frozen?, hB]
  have hgw : g ≠ w.heap.size := by omega
  have hgw1 : w.heap.size < W1.heap.size := by have := HS1.out; omega
  go_upto_region 2 with fail
  have hg2 := grownBy_set W1 w.heap.size 3 (.int .i64 (i : Int))
  have hB2 : (W1.setCell ⟨w.heap.size, 3, none⟩ (.int .i64 (i : Int))).heap[w.heap.size]? = some (.cells #[.int .i64 kd, .int .i64 n, .string x, .int .i64 i] 84 (0, 0)) := by simp [World.setCell, Array.getElem?_modify, hB]
  have hC2 := HC1.out.keptR hg2 (fun e => hgw (by injection e with e; exact e.symm))
  have hO2 : Own (W1.setCell ⟨w.heap.size, 3, none⟩ (.int .i64 (i : Int))) (g + 1) 84 encTok 4 (.slice p0 n0 c0') l := HO1.out.same (fun k e => hg2.block k (HO1.out.lt k e).2 (fun e2 => by have := HLT.out k e; injection e2 with e2; omega))
  have hb2 : Below g w (W1.setCell ⟨w.heap.size, 3, none⟩ (.int .i64 (i : Int))) := H3.out.grown hg2 (by omega) (fun k e => by injection e with e; omega)
  obtain ⟨W2, hW2⟩ : ∃ W2, W1.setCell ⟨w.heap.size, 3, none⟩ (.int .i64 (i : Int)) = W2 := ⟨_, rfl⟩
  rw [hW2] at hB2 hC2 hO2 hb2
  try rw [hW2]
  have hz2 : g < W2.heap.size := hC2.lt
  have hw2 : w.heap.size < W2.heap.size := by rw [← hW2]; simpa using hgw1
  clear hW2 c1 t3 t4 hg2
  have t0 : W2.cell? ⟨w.heap.size, 0, none⟩ = some (.int .i64 kd) := by rw [cell_of_row W2 w.heap.size 0 _ _ _ hB2]; rfl
  have t1 : W2.cell? ⟨w.heap.size, 1, none⟩ = some (.int .i64 n) := by rw [cell_of_row W2 w.heap.size 1 _ _ _ hB2]; rfl
  have t2 : W2.cell? ⟨w.heap.size, 2, none⟩ = some (.string x) := by rw [cell_of_row W2 w.heap.size 2 _ _ _ hB2]; rfl
  have t3 : W2.cell? ⟨w.heap.size, 3, none⟩ = some (.int .i64 i) := by rw [cell_of_row W2 w.heap.size 3 _ _ _ hB2]; rfl
  have c2 := hC2.cell 2 (u := .slice p0 n0 c0') rfl
  have HOX : Hid (Own (W2.alloc (.cells #[.int .i64 kd, .int .i64 n, .string x, .int .i64 i] 84)) (g + 1) 84 encTok 4 (.slice p0 n0 c0') l) := hO2.below ((Below.refl _ _).alloc (Nat.le_refl _) _) (Nat.le_refl _)
  have HRX : Hid (Rd (W2.alloc (.cells #[.int .i64 kd, .int .i64 n, .string x, .int .i64 i] 84)) (W2.heap.size + 1) encTok 4 (.slice (some ⟨W2.heap.size, 0, none⟩) 1 1) [(⟨kd, n, x, i⟩ : Tok)]) := Rd.one codecTok (heap_alloc_at rfl) rfl (by omega)
  have HCX : Hid (ScAt (W2.alloc (.cells #[.int .i64 kd, .int .i64 n, .string x, .int .i64 i] 84)) g s i (.slice p0 n0 c0')) := hC2.under ((Below.refl _ _).alloc (Nat.le_refl _) _) hz2
  have HBX : Hid (Below g w (W2.alloc (.cells #[.int .i64 kd, .int .i64 n, .string x, .int .i64 i] 84))) := hb2.alloc (by omega) _
  have HW2 : Hid (w.heap.size < W2.heap.size ∧ g < w.heap.size) := ⟨hw2, hg⟩
  clear hC2 hO2 hb2 hB2
  go_region_law
    (first
      | (refine step_append_rd slTok codecTok (W2.alloc (.cells #[.int .i64 kd, .int .i64 n, .string x, .int .i64 i] 84)).drew (by rfl) (.tmp 15) (.tmp 17) (by rfl) (v := .slice p0 n0 c0') (by rfl) (by rfl) HOX.out HRX.out (by have := HL.out; simp only [List.length_singleton]; unfold maxLen; omega) (by have := HL.out; simp only [List.length_singleton]; omega) (by have := HW2.out; show g + 1 ≤ (W2.alloc _).heap.size; simp; omega) ?_
         intro v9 w9 ho9 hg9 hat9
         obtain ⟨p9, n9, c9, rfl⟩ : ∃ p n c, v9 = Value.slice p n c := (by obtain ⟨p, c, hv, h1, h2⟩ := ho9.len; exact ⟨p, _, c, hv⟩)
         have H9 : ScAt w9 g s i (.slice p0 n0 c0') := (hg9.block g (by have := HCX.out.lt; exact this) (fun e => by have := (HOX.out.lt _ e.symm).1; omega)).trans HCX.out
         have b2 := H9.cell 2 (u := .slice p0 n0 c0') rfl
         have bf := H9.frozen 2
         have b1 := H9.cell 1 (u := .int .i64 i) rfl
         have bf1 := H9.frozen 1)
      | fail)
  all_goals
    have HB9 : Below g w w9 := (show Below g w (W2.alloc (.cells #[.int .i64 kd, .int .i64 n, .string x, .int .i64 i] 84)).drew from HBX.out.drew).grown hg9 (by have := HW2.out; show g ≤ (W2.alloc _).heap.size; simp; omega) (fun k e => by have := (HOX.out.lt k e).1; omega)
    have HN9 := H9.set2 (.slice p9 n9 c9)
    have HN10 := HN9.set1 k
    have hg10 := (grownBy_set w9 g 2 (.slice p9 n9 c9)).trans (grownBy_set _ g 1 (.int .i64 (k : Int)))
    have ho10 := ho9.same (w' := (w9.setCell ⟨g, 2, none⟩ (.slice p9 n9 c9)).setCell ⟨g, 1, none⟩ (.int .i64 (k : Int))) (fun j e => hg10.block j (ho9.lt j e).2 (fun e2 => by have := (ho9.lt j e).1; injection e2 with e2; omega))
    have hb10 := HB9.grown hg10 (by have := H9.lt; omega) (fun j e => by injection e with e; omega)
    go_wp2_with fail
    go_end0
    exact ⟨rfl, ⟨⟨_, HN10, ho10⟩, hb10⟩⟩

/-- What indexByte says of the two sets. -/
theorem index_ge : ∀ (l : List UInt8) (c : UInt8), decide (0 ≤ Lib.indexByte l c) = l.any (fun b => decide (b = c))
  | [], c => by simp [Lib.indexByte]
  | b :: l, c => by
    have ih := index_ge l c
    unfold Lib.indexByte
    rw [List.any_cons]
    by_cases h : b = c
    · simp [h]
    · have h2 : (b == c) = false := by simpa using h
      rw [h2, if_neg (by decide), decide_eq_false h, Bool.false_or, ← ih]
      by_cases h3 : Lib.indexByte l c = -1
      · simp [h3]
      · have h4 : (Lib.indexByte l c == -1) = false := by simpa using h3
        rw [h4, if_neg (by decide)]
        have h5 : -1 ≤ Lib.indexByte l c := index_min l c
        by_cases h6 : 0 ≤ Lib.indexByte l c
        · rw [decide_eq_true h6, decide_eq_true (by omega)]
        · omega
where index_min : ∀ (l : List UInt8) (c : UInt8), -1 ≤ Lib.indexByte l c
  | [], c => by simp [Lib.indexByte]
  | b :: l, c => by
    have ih := index_min l c
    unfold Lib.indexByte
    split
    · omega
    · split
      · omega
      · omega
theorem u8_eq (b c : UInt8) : (b = c) = (c.toNat = b.toNat) := by
  apply propext
  constructor
  · intro h; rw [h]
  · intro h; exact (UInt8.toNat_inj.1 h).symm
theorem sp_index (c : UInt8) : decide (0 ≤ Lib.indexByte [32, 9, 10, 13] c) = spCh c := by
  rw [index_ge]
  simp only [List.any_cons, List.any_nil, Bool.or_false, u8_eq, spCh]
  simp only [Bool.or_assoc]
  rfl
theorem mk_index (c : UInt8) : decide (0 ≤ Lib.indexByte [123, 125, 91, 93, 58, 44] c) = mkCh c := by
  rw [index_ge]
  simp only [List.any_cons, List.any_nil, Bool.or_false, u8_eq, mkCh]
  simp only [Bool.or_assoc]
  rfl
end Go.Proofs.YtanemojiaahbgaaGreatDoor
end
