import Derived.Test.YtffhccmppdgmfaaGreatDoorG13
import Derived.Test.YtffhccmppdgmfaaGreatDoorG12
import Derived.BigQuiet
import Derived.Test.YtffhccmppdgmfaaGreatDoorG10
import Derived.Deep.RegionHeld3
import Derived.StillTailTactics
set_option linter.unusedSimpArgs false
set_option linter.unusedVariables false
set_option maxRecDepth 200000
set_option maxHeartbeats 8000000
namespace Go.Proofs.YtffhccmppdgmfaaGreatDoor
section
open Go Go.RowKit Go.OpenShut
theorem value_list (w : World) (g en pa deep : Nat) (t : Tok) (ts : List Tok) (l : List JV) (q : Nat) (rest : List Tok) (h : RdS w g ts en pa) (hd : deep <= 16) (hp : pa < 8192) (hk : t.kind = 1) (hs : t.s = ⟨#[91]⟩)
 (hL : ∀ W, RdS W g ts en (pa + 1) -> Calls Tryz.prog 107 #[.pointer (some ⟨g, 0, none⟩), .int .i64 deep] W (LstR W g l rest en q)) :
 Calls Tryz.prog 78 #[.pointer (some ⟨g, 0, none⟩), t.val, .int .i64 deep] w (ValR w g (.mk 5 0 ⟨#[]⟩ l []) rest en q) := by
 have hgl := h.lt
 have HLL := Lib.hid hL
 have hg0 := ((World.grownBy_alloc w t.obj none).trans (World.grownBy_alloc _ (.cells #[.int .i64 0, .int .i64 0, .string ⟨#[]⟩, .slice none 0 0, .slice none 0 0] 25) none)).trans (World.grownBy_alloc _ (.cells #[.int .i64 0, .int .i64 0, .string ⟨#[]⟩, .slice none 0 0, .slice none 0 0] 25) none)
 have hT0 : TokAt (((w.alloc t.obj).alloc (.cells #[.int .i64 0, .int .i64 0, .string ⟨#[]⟩, .slice none 0 0, .slice none 0 0] 25)).alloc (.cells #[.int .i64 0, .int .i64 0, .string ⟨#[]⟩, .slice none 0 0, .slice none 0 0] 25)) w.heap.size t := heap_alloc_lt (by simp; omega) (heap_alloc_lt (by simp) (heap_alloc_at rfl))
 have hV1 : VAt (((w.alloc t.obj).alloc (.cells #[.int .i64 0, .int .i64 0, .string ⟨#[]⟩, .slice none 0 0, .slice none 0 0] 25)).alloc (.cells #[.int .i64 0, .int .i64 0, .string ⟨#[]⟩, .slice none 0 0, .slice none 0 0] 25)) (w.heap.size + 1) RV.zero := heap_alloc_lt (by simp) (heap_alloc_at (by simp))
 have hV2 : VAt (((w.alloc t.obj).alloc (.cells #[.int .i64 0, .int .i64 0, .string ⟨#[]⟩, .slice none 0 0, .slice none 0 0] 25)).alloc (.cells #[.int .i64 0, .int .i64 0, .string ⟨#[]⟩, .slice none 0 0, .slice none 0 0] 25)) (w.heap.size + 1 + 1) RV.zero := heap_alloc_at (by simp)
 have hs0 : (((w.alloc t.obj).alloc (.cells #[.int .i64 0, .int .i64 0, .string ⟨#[]⟩, .slice none 0 0, .slice none 0 0] 25)).alloc (.cells #[.int .i64 0, .int .i64 0, .string ⟨#[]⟩, .slice none 0 0, .slice none 0 0] 25)).heap.size = w.heap.size + 3 := by simp
 have hR0 := h.kept hg0 (fun k e => by cases e)
 obtain ⟨tk, tn, tS, tp⟩ := t
 dsimp only [Tok.val, Tok.obj] at *
 subst hk
 subst hs
 have HI : Hid (∀ W, Calls Tryz.prog 106 #[.agg #[.int .i64 1, .int .i64 tn, .string ⟨#[91]⟩, .int .i64 tp], .string ⟨#[91]⟩] W fun e w' => e = .returned (.bool true) /\ Below W.heap.size W w') := fun W => is_any ⟨1, tn, ⟨#[91]⟩, tp⟩ 91 W true (by simp [isM])
 clear h hL
 have d1 : ¬ (16 < (deep : Int)) := by omega
 have d2 : ¬ (16 < deep) := by omega
 have d3 : (deep : Int) <= 16 := by omega
 go_enter Tryz.func78, Tryz.ntmps78
 go_upto_region 3 with fail
 obtain ⟨W0, hW0⟩ : ∃ W0, ((w.alloc (.cells #[.int .i64 1, .int .i64 tn, .string ⟨#[91]⟩, .int .i64 tp] 115)).alloc (.cells #[.int .i64 0, .int .i64 0, .string ⟨#[]⟩, .slice none 0 0, .slice none 0 0] 25)).alloc (.cells #[.int .i64 0, .int .i64 0, .string ⟨#[]⟩, .slice none 0 0, .slice none 0 0] 25) = W0 := ⟨_, rfl⟩
 rw [hW0] at hg0 hT0 hV1 hV2 hs0 hR0
 try rw [hW0]
 clear hW0
 have a0 := hT0.cell 0 rfl
 have a1 := hT0.cell 1 rfl
 have a2 := hT0.cell 2 rfl
 have a3 := hT0.cell 3 rfl
 have HG0 := Lib.hid hg0
 have HT0 := Lib.hid hT0
 have HV1 := Lib.hid hV1
 have HV2 := Lib.hid hV2
 have HR0 := Lib.hid hR0
 have HS0 := Lib.hid hs0
 clear hg0 hT0 hV1 hV2 hR0 hs0
 go_upto_region 14 with (go_at_call 106; refine (HI.out _).mono ?_; rintro e W1 ⟨rfl, hb1⟩)
 have HB1 := Lib.hid hb1
 clear hb1
 have HVC := Lib.hid (HV2.out.keep (HB1.out.block _ HV2.out.lt))
 have HV1C := Lib.hid (HV1.out.keep (HB1.out.block _ HV1.out.lt))
 have HRC := Lib.hid (HR0.out.kept (HB1.out.gbr none) (fun k e => by cases e))
 have HGC := Lib.hid (HG0.out.trans (HB1.out.gbr none))
 have HSC : Hid (w.heap.size + 3 <= W1.heap.size) := by have := HB1.out.size; have := HS0.out; unfold Hid; omega
 clear a0 a1 a2 a3 HV2 HV1 HR0 HG0
 have hV2 := HVC.out
 obtain ⟨v0, v1, v2, v3, v4⟩ := hV2.cells5
 have y0 := hV2.frozen 0
 have y1 := hV2.frozen 1
 have y2 := hV2.frozen 2
 have y3 := hV2.frozen 3
 have y4 := hV2.frozen 4
 dsimp only [RV.zero] at v0 v1 v2 v3 v4
 go_upto_region 17 with fail
 have hv := hV2.setK 5
 have hg := grownBy_set W1 (w.heap.size + 1 + 1) 0 (.int .i64 5)
 have hs1 := HSC.out
 have hv1 := HV1C.out.keep (hg.block _ HV1C.out.lt (by simp))
 have hr := HRC.out.kept hg (fun k e => by cases e; omega)
 have hgw := HGC.out.new_row hg (by omega)
 have hz2 : (W1.setCell ⟨w.heap.size + 1 + 1, 0, none⟩ (.int .i64 5)).heap.size = W1.heap.size := by simp
 dsimp only [RV.zero] at hv
 obtain ⟨W2, hW2⟩ : ∃ W, W1.setCell ⟨w.heap.size + 1 + 1, 0, none⟩ (.int .i64 5) = W := ⟨_, rfl⟩
 rw [hW2] at hv hv1 hr hgw hz2
 try rw [hW2]
 clear hW2 v0 v1 v2 v3 v4 y0 y1 y2 y3 y4 hV2 hg HVC HV1C HRC HGC
 obtain ⟨p0, nn0, c0, hrd, hrl⟩ := hr.ex
 have c2 := hrd.cell 2 rfl
 have z2 := hrd.frozen 2
 have hgx := grownBy_set W2 g 2 (.int .i64 ((pa : Int) + 1))
 have hR3 : RdS (W2.setCell ⟨g, 2, none⟩ (.int .i64 ((pa : Int) + 1))) g ts en (pa + 1) := ⟨p0, nn0, c0, hrd.set2' _ _ (by omega), hrl.below (below_of hgx (by have := hrd.lt; omega) (fun k e => by cases e; exact Nat.le_refl _)) (Nat.le_refl _)⟩
 have hV3 := hv1.keep (hgx.block _ hv1.lt (by simp; omega))
 have hV4 := hv.keep (hgx.block _ hv.lt (by simp; omega))
 have hG3 := hgw.keep_some hgx
 have hz3 : w.heap.size + 3 <= (W2.setCell ⟨g, 2, none⟩ (.int .i64 ((pa : Int) + 1))).heap.size := by simp; omega
 go_upto_region 20 with fail
 have c3 := hR3.cell2
 obtain ⟨W3, hW3⟩ : ∃ W, W2.setCell ⟨g, 2, none⟩ (.int .i64 ((pa : Int) + 1)) = W := ⟨_, rfl⟩
 rw [hW3] at hR3 hV3 hV4 hG3 c3 hz3
 try rw [hW3]
 clear hW3 c2 z2 hgx hrd hrl hv hv1 hr hgw hz2
 obtain ⟨v0, v1, v2, v3, v4⟩ := hV4.cells5
 have HR3 := Lib.hid hR3
 have HV3 := Lib.hid hV3
 have HV4 := Lib.hid hV4
 have HG3 := Lib.hid hG3
 have HZ3 := Lib.hid hz3
 clear hR3 hV3 hV4 hG3 hz3
 go_upto_region 27 with (go_at_call 107; refine (HLL.out _ HR3.out).mono ?_; rintro e w5 ⟨p5, n5, c5, rfl, hgr5, hr5, hg5⟩; (have hV5 := HV4.out.keep (hg5.block (w.heap.size + 1 + 1) HV4.out.lt (by simp; omega))); (obtain ⟨u0, u1, u2, u3, u4⟩ := hV5.cells5); (have y0 := hV5.frozen 0); (have y1 := hV5.frozen 1); (have y2 := hV5.frozen 2); (have y3 := hV5.frozen 3); (have y4 := hV5.frozen 4))
 have hv6 := hV5.setLs p5 n5 c5
 have hg6 := grownBy_set w5 (w.heap.size + 1 + 1) 3 (.slice p5 n5 c5)
 have hv7 := (HV3.out.keep (hg5.block _ HV3.out.lt (by simp; omega))).keep (hg6.block (w.heap.size + 1) (Nat.lt_of_lt_of_le HV3.out.lt hg5.size) (by simp))
 have hr6 := hr5.kept hg6 (fun k e => by cases e; omega)
 have hgw6 := (HG3.out.trans hg5).new_row hg6 (by omega)
 have ht5 := hgr5.whole
 have ht6 := ht5.same (w' := w5.setCell ⟨w.heap.size + 1 + 1, 3, none⟩ (.slice p5 n5 c5)) (fun k hk => hg6.block k hk.2 (fun e => by have := hk.1; have := HZ3.out; cases e; omega))
 have hz6 : (w5.setCell ⟨w.heap.size + 1 + 1, 3, none⟩ (.slice p5 n5 c5)).heap.size = w5.heap.size := by simp
 obtain ⟨W6, hW6⟩ : ∃ W, w5.setCell ⟨w.heap.size + 1 + 1, 3, none⟩ (.slice p5 n5 c5) = W := ⟨_, rfl⟩
 rw [hW6] at hv6 hv7 hr6 hgw6 ht6 hz6
 try rw [hW6]
 dsimp only at hv6
 clear hW6 v0 v1 v2 v3 v4 u0 u1 u2 u3 u4 y0 y1 y2 y3 y4 c3 hg6 hV5 ht5
 obtain ⟨v0, v1, v2, v3, v4⟩ := hv6.cells5
 obtain ⟨z0, z1, z2, z3, z4⟩ := hv7.cells5
 have y0 := hv7.frozen 0
 have y1 := hv7.frozen 1
 have y2 := hv7.frozen 2
 have y3 := hv7.frozen 3
 have y4 := hv7.frozen 4
 dsimp only [RV.zero] at v0 v1 v2 v3 v4 z0 z1 z2 z3 z4
 have HR6 := Lib.hid hr6
 have HG6 := Lib.hid hgw6
 have HT6 := Lib.hid ht6
 have HZ6 := Lib.hid hz6
 have HGX := Lib.hid hg5.size
 clear hr6 hgw6 ht6 hv6 hv7 hgr5 hr5 hg5 hz6
 go_wp2_with fail
 have hg7 := grownBy_set5 W6 (w.heap.size + 1) (⟨5, 0, ⟨#[]⟩, p5, n5, c5, none, 0, 0⟩ : RV)
 have hz7 := hg7.size
 refine bodyPost_ret (v := RV.val ⟨5, 0, ⟨#[]⟩, p5, n5, c5, none, 0, 0⟩) (by simp [results, Tryz.results78, go_sem, z0, z1, z2, z3, z4]) rfl ⟨⟨5, 0, ⟨#[]⟩, p5, n5, c5, none, 0, 0⟩, rfl, ?_, HR6.out.kept hg7 (fun k e => by cases e; omega), HG6.out.new_row hg7 (by omega)⟩
 refine (HT6.out.same (fun k hk => hg7.block k (by have := HZ6.out; omega) (fun e => by have := hk.1; have := HZ3.out; cases e; omega))).mono (fun k hk => ⟨by have := hk.1; have := HZ3.out; omega, ?_⟩)
 exact Nat.lt_of_lt_of_le (show k < W6.heap.size by have := hk.2; have := HZ6.out; omega) hz7
theorem value_map (w : World) (g en pa deep : Nat) (t : Tok) (ts : List Tok) (l : List (ByteArray × JV)) (q : Nat) (rest : List Tok) (h : RdS w g ts en pa) (hd : deep <= 16) (hp : pa < 8192) (hk : t.kind = 1) (hs : t.s = ⟨#[123]⟩)
 (hL : ∀ W, RdS W g ts en (pa + 1) -> Calls Tryz.prog 108 #[.pointer (some ⟨g, 0, none⟩), .int .i64 deep] W (MemR W g l rest en q)) :
 Calls Tryz.prog 78 #[.pointer (some ⟨g, 0, none⟩), t.val, .int .i64 deep] w (ValR w g (.mk 6 0 ⟨#[]⟩ [] l) rest en q) := by
 have hgl := h.lt
 have HLL := Lib.hid hL
 have hg0 := ((World.grownBy_alloc w t.obj none).trans (World.grownBy_alloc _ (.cells #[.int .i64 0, .int .i64 0, .string ⟨#[]⟩, .slice none 0 0, .slice none 0 0] 25) none)).trans (World.grownBy_alloc _ (.cells #[.int .i64 0, .int .i64 0, .string ⟨#[]⟩, .slice none 0 0, .slice none 0 0] 25) none)
 have hT0 : TokAt (((w.alloc t.obj).alloc (.cells #[.int .i64 0, .int .i64 0, .string ⟨#[]⟩, .slice none 0 0, .slice none 0 0] 25)).alloc (.cells #[.int .i64 0, .int .i64 0, .string ⟨#[]⟩, .slice none 0 0, .slice none 0 0] 25)) w.heap.size t := heap_alloc_lt (by simp; omega) (heap_alloc_lt (by simp) (heap_alloc_at rfl))
 have hV1 : VAt (((w.alloc t.obj).alloc (.cells #[.int .i64 0, .int .i64 0, .string ⟨#[]⟩, .slice none 0 0, .slice none 0 0] 25)).alloc (.cells #[.int .i64 0, .int .i64 0, .string ⟨#[]⟩, .slice none 0 0, .slice none 0 0] 25)) (w.heap.size + 1) RV.zero := heap_alloc_lt (by simp) (heap_alloc_at (by simp))
 have hV2 : VAt (((w.alloc t.obj).alloc (.cells #[.int .i64 0, .int .i64 0, .string ⟨#[]⟩, .slice none 0 0, .slice none 0 0] 25)).alloc (.cells #[.int .i64 0, .int .i64 0, .string ⟨#[]⟩, .slice none 0 0, .slice none 0 0] 25)) (w.heap.size + 1 + 1) RV.zero := heap_alloc_at (by simp)
 have hs0 : (((w.alloc t.obj).alloc (.cells #[.int .i64 0, .int .i64 0, .string ⟨#[]⟩, .slice none 0 0, .slice none 0 0] 25)).alloc (.cells #[.int .i64 0, .int .i64 0, .string ⟨#[]⟩, .slice none 0 0, .slice none 0 0] 25)).heap.size = w.heap.size + 3 := by simp
 have hR0 := h.kept hg0 (fun k e => by cases e)
 obtain ⟨tk, tn, tS, tp⟩ := t
 dsimp only [Tok.val, Tok.obj] at *
 subst hk
 subst hs
 have HI : Hid (∀ W, Calls Tryz.prog 106 #[.agg #[.int .i64 1, .int .i64 tn, .string ⟨#[123]⟩, .int .i64 tp], .string ⟨#[91]⟩] W fun e w' => e = .returned (.bool false) /\ Below W.heap.size W w') := fun W => is_any ⟨1, tn, ⟨#[123]⟩, tp⟩ 91 W false (by simp [isM])
 have HJ : Hid (∀ W, Calls Tryz.prog 106 #[.agg #[.int .i64 1, .int .i64 tn, .string ⟨#[123]⟩, .int .i64 tp], .string ⟨#[123]⟩] W fun e w' => e = .returned (.bool true) /\ Below W.heap.size W w') := fun W => is_any ⟨1, tn, ⟨#[123]⟩, tp⟩ 123 W true (by simp [isM])
 clear h hL
 have d1 : ¬ (16 < (deep : Int)) := by omega
 have d2 : ¬ (16 < deep) := by omega
 have d3 : (deep : Int) <= 16 := by omega
 go_enter Tryz.func78, Tryz.ntmps78
 go_upto_region 3 with fail
 obtain ⟨W0, hW0⟩ : ∃ W0, ((w.alloc (.cells #[.int .i64 1, .int .i64 tn, .string ⟨#[123]⟩, .int .i64 tp] 115)).alloc (.cells #[.int .i64 0, .int .i64 0, .string ⟨#[]⟩, .slice none 0 0, .slice none 0 0] 25)).alloc (.cells #[.int .i64 0, .int .i64 0, .string ⟨#[]⟩, .slice none 0 0, .slice none 0 0] 25) = W0 := ⟨_, rfl⟩
 rw [hW0] at hg0 hT0 hV1 hV2 hs0 hR0
 try rw [hW0]
 clear hW0
 have a0 := hT0.cell 0 rfl
 have a1 := hT0.cell 1 rfl
 have a2 := hT0.cell 2 rfl
 have a3 := hT0.cell 3 rfl
 have HG0 := Lib.hid hg0
 have HT0 := Lib.hid hT0
 have HV1 := Lib.hid hV1
 have HV2 := Lib.hid hV2
 have HR0 := Lib.hid hR0
 have HS0 := Lib.hid hs0
 clear hg0 hT0 hV1 hV2 hR0 hs0
 go_upto_region 15 with (go_at_call 106; refine (HI.out _).mono ?_; rintro e Wa ⟨rfl, hb1⟩)
 have hTa := HT0.out.keep (hb1.block _ HT0.out.lt)
 clear a0 a1 a2 a3
 have a0 := hTa.cell 0 rfl
 have a1 := hTa.cell 1 rfl
 have a2 := hTa.cell 2 rfl
 have a3 := hTa.cell 3 rfl
 have HB0 := Lib.hid hb1
 clear hb1 hTa
 go_upto_region 16 with (go_at_call 106; refine (HJ.out _).mono ?_; rintro e W1 ⟨rfl, hb1⟩)
 have HB1 : Hid (Below W0.heap.size W0 W1) := HB0.out.trans (hb1.mono HB0.out.size)
 clear hb1 HB0
 have HVC := Lib.hid (HV2.out.keep (HB1.out.block _ HV2.out.lt))
 have HV1C := Lib.hid (HV1.out.keep (HB1.out.block _ HV1.out.lt))
 have HRC := Lib.hid (HR0.out.kept (HB1.out.gbr none) (fun k e => by cases e))
 have HGC := Lib.hid (HG0.out.trans (HB1.out.gbr none))
 have HSC : Hid (w.heap.size + 3 <= W1.heap.size) := by have := HB1.out.size; have := HS0.out; unfold Hid; omega
 clear a0 a1 a2 a3 HV2 HV1 HR0 HG0
 have hV2 := HVC.out
 obtain ⟨v0, v1, v2, v3, v4⟩ := hV2.cells5
 have y0 := hV2.frozen 0
 have y1 := hV2.frozen 1
 have y2 := hV2.frozen 2
 have y3 := hV2.frozen 3
 have y4 := hV2.frozen 4
 dsimp only [RV.zero] at v0 v1 v2 v3 v4
 go_upto_region 17 with fail
 have hv := hV2.setK 6
 have hg := grownBy_set W1 (w.heap.size + 1 + 1) 0 (.int .i64 6)
 have hs1 := HSC.out
 have hv1 := HV1C.out.keep (hg.block _ HV1C.out.lt (by simp))
 have hr := HRC.out.kept hg (fun k e => by cases e; omega)
 have hgw := HGC.out.new_row hg (by omega)
 have hz2 : (W1.setCell ⟨w.heap.size + 1 + 1, 0, none⟩ (.int .i64 6)).heap.size = W1.heap.size := by simp
 dsimp only [RV.zero] at hv
 obtain ⟨W2, hW2⟩ : ∃ W, W1.setCell ⟨w.heap.size + 1 + 1, 0, none⟩ (.int .i64 6) = W := ⟨_, rfl⟩
 rw [hW2] at hv hv1 hr hgw hz2
 try rw [hW2]
 clear hW2 v0 v1 v2 v3 v4 y0 y1 y2 y3 y4 hV2 hg HVC HV1C HRC HGC
 obtain ⟨p0, nn0, c0, hrd, hrl⟩ := hr.ex
 have c2 := hrd.cell 2 rfl
 have z2 := hrd.frozen 2
 have hgx := grownBy_set W2 g 2 (.int .i64 ((pa : Int) + 1))
 have hR3 : RdS (W2.setCell ⟨g, 2, none⟩ (.int .i64 ((pa : Int) + 1))) g ts en (pa + 1) := ⟨p0, nn0, c0, hrd.set2' _ _ (by omega), hrl.below (below_of hgx (by have := hrd.lt; omega) (fun k e => by cases e; exact Nat.le_refl _)) (Nat.le_refl _)⟩
 have hV3 := hv1.keep (hgx.block _ hv1.lt (by simp; omega))
 have hV4 := hv.keep (hgx.block _ hv.lt (by simp; omega))
 have hG3 := hgw.keep_some hgx
 have hz3 : w.heap.size + 3 <= (W2.setCell ⟨g, 2, none⟩ (.int .i64 ((pa : Int) + 1))).heap.size := by simp; omega
 go_upto_region 20 with fail
 have c3 := hR3.cell2
 obtain ⟨W3, hW3⟩ : ∃ W, W2.setCell ⟨g, 2, none⟩ (.int .i64 ((pa : Int) + 1)) = W := ⟨_, rfl⟩
 rw [hW3] at hR3 hV3 hV4 hG3 c3 hz3
 try rw [hW3]
 clear hW3 c2 z2 hgx hrd hrl hv hv1 hr hgw hz2
 obtain ⟨v0, v1, v2, v3, v4⟩ := hV4.cells5
 have HR3 := Lib.hid hR3
 have HV3 := Lib.hid hV3
 have HV4 := Lib.hid hV4
 have HG3 := Lib.hid hG3
 have HZ3 := Lib.hid hz3
 clear hR3 hV3 hV4 hG3 hz3
 go_upto_region 27 with (go_at_call 108; refine (HLL.out _ HR3.out).mono ?_; rintro e w5 ⟨p5, n5, c5, rfl, hgr5, hr5, hg5⟩; (have hV5 := HV4.out.keep (hg5.block (w.heap.size + 1 + 1) HV4.out.lt (by simp; omega))); (obtain ⟨u0, u1, u2, u3, u4⟩ := hV5.cells5); (have y0 := hV5.frozen 0); (have y1 := hV5.frozen 1); (have y2 := hV5.frozen 2); (have y3 := hV5.frozen 3); (have y4 := hV5.frozen 4))
 have hv6 := hV5.setMs p5 n5 c5
 have hg6 := grownBy_set w5 (w.heap.size + 1 + 1) 4 (.slice p5 n5 c5)
 have hv7 := (HV3.out.keep (hg5.block _ HV3.out.lt (by simp; omega))).keep (hg6.block (w.heap.size + 1) (Nat.lt_of_lt_of_le HV3.out.lt hg5.size) (by simp))
 have hr6 := hr5.kept hg6 (fun k e => by cases e; omega)
 have hgw6 := (HG3.out.trans hg5).new_row hg6 (by omega)
 have ht5 := hgr5.whole
 have ht6 := ht5.same (w' := w5.setCell ⟨w.heap.size + 1 + 1, 4, none⟩ (.slice p5 n5 c5)) (fun k hk => hg6.block k hk.2 (fun e => by have := hk.1; have := HZ3.out; cases e; omega))
 have hz6 : (w5.setCell ⟨w.heap.size + 1 + 1, 4, none⟩ (.slice p5 n5 c5)).heap.size = w5.heap.size := by simp
 obtain ⟨W6, hW6⟩ : ∃ W, w5.setCell ⟨w.heap.size + 1 + 1, 4, none⟩ (.slice p5 n5 c5) = W := ⟨_, rfl⟩
 rw [hW6] at hv6 hv7 hr6 hgw6 ht6 hz6
 try rw [hW6]
 dsimp only at hv6
 clear hW6 v0 v1 v2 v3 v4 u0 u1 u2 u3 u4 y0 y1 y2 y3 y4 c3 hg6 hV5 ht5
 obtain ⟨v0, v1, v2, v3, v4⟩ := hv6.cells5
 obtain ⟨z0, z1, z2, z3, z4⟩ := hv7.cells5
 have y0 := hv7.frozen 0
 have y1 := hv7.frozen 1
 have y2 := hv7.frozen 2
 have y3 := hv7.frozen 3
 have y4 := hv7.frozen 4
 dsimp only [RV.zero] at v0 v1 v2 v3 v4 z0 z1 z2 z3 z4
 have HR6 := Lib.hid hr6
 have HG6 := Lib.hid hgw6
 have HT6 := Lib.hid ht6
 have HZ6 := Lib.hid hz6
 have HGX := Lib.hid hg5.size
 clear hr6 hgw6 ht6 hv6 hv7 hgr5 hr5 hg5 hz6
 go_wp2_with fail
 have hg7 := grownBy_set5 W6 (w.heap.size + 1) (⟨6, 0, ⟨#[]⟩, none, 0, 0, p5, n5, c5⟩ : RV)
 have hz7 := hg7.size
 refine bodyPost_ret (v := RV.val ⟨6, 0, ⟨#[]⟩, none, 0, 0, p5, n5, c5⟩) (by simp [results, Tryz.results78, go_sem, z0, z1, z2, z3, z4]) rfl ⟨⟨6, 0, ⟨#[]⟩, none, 0, 0, p5, n5, c5⟩, rfl, ?_, HR6.out.kept hg7 (fun k e => by cases e; omega), HG6.out.new_row hg7 (by omega)⟩
 refine (HT6.out.same (fun k hk => hg7.block k (by have := HZ6.out; omega) (fun e => by have := hk.1; have := HZ3.out; cases e; omega))).mono (fun k hk => ⟨by have := hk.1; have := HZ3.out; omega, ?_⟩)
 exact Nat.lt_of_lt_of_le (show k < W6.heap.size by have := hk.2; have := HZ6.out; omega) hz7
theorem isM_mark {t : Tok} {c : UInt8} (h : isM t c = true) : t.kind = 1 /\ t.s = ⟨#[c]⟩ := by
 unfold isM at h
 rw [Bool.and_eq_true, decide_eq_true_eq, decide_eq_true_eq] at h
 exact h
theorem value_all : ∀ N, PV N
 | 0 => fun f hf d p t ts v q r h => by
   obtain rfl : f = 0 := by omega
   simp [parV] at h
 | N + 1 => by
   have ih := value_all N
   intro f hf d p t ts v q r h w g en hr
   cases f with
   | zero => simp [parV] at h
   | succ f =>
     have hb := (par_bd (f + 1)).1 _ _ _ _ _ _ h
     unfold parV at h
     split at h
     ·cases h
     ·rename_i hc
      have hp : p < 8192 := by omega
      have leaf : ∀ v', leafOf t = some v' -> Calls Tryz.prog 78 #[.pointer (some ⟨g, 0, none⟩), t.val, .int .i64 d] w (ValR w g v' ts en (p + 1)) := fun v' hv => value_leaf w g en p d t ts v' hr hb.2.2 hp hv
      split at h
      ·rename_i h4
       cases h
       exact leaf _ (by unfold leafOf; rw [if_pos h4])
      ·rename_i h4
       split at h
       ·rename_i h2
        split at h
        ·rename_i h5; cases h; exact leaf _ (by unfold leafOf; rw [if_neg h4, if_pos h2, if_pos h5])
        ·rename_i h5
         split at h
         ·rename_i h6; cases h; exact leaf _ (by unfold leafOf; rw [if_neg h4, if_pos h2, if_neg h5, if_pos h6])
         ·rename_i h6; cases h; exact leaf _ (by unfold leafOf; rw [if_neg h4, if_pos h2, if_neg h5, if_neg h6])
       ·split at h
        ·rename_i h2 h91
         have hm := isM_mark h91
         cases ts with
         | nil => cases h
         | cons c r' =>
           dsimp only at h
           split at h
           ·rename_i h93
            cases h
            exact value_list w g en p d t (c :: _) [] _ _ hr hb.2.2 hp hm.1 hm.2 (fun W hW => list_none W g en (p + 1) d c _ hW h93)
           ·rename_i h93
            obtain ⟨x, hx, he⟩ := Option.map_eq_some_iff.1 h
            cases he
            exact value_list w g en p d t (c :: r') x.1 _ _ hr hb.2.2 hp hm.1 hm.2 (fun W hW => list_some N ih W g en (p + 1) d f c r' x.1 _ _ hW hb.2.2 (by simpa using h93) (by omega) hx)
        ·split at h
         ·rename_i h2 h91 h123
          have hm := isM_mark h123
          cases ts with
          | nil => cases h
          | cons c r' =>
            dsimp only at h
            split at h
            ·rename_i h93
             cases h
             exact value_map w g en p d t (c :: _) [] _ _ hr hb.2.2 hp hm.1 hm.2 (fun W hW => (members_none W g en (p + 1) d c _ hW h93).mono (fun e w' hh => ⟨none, 0, 0, hh.1, GrM.nil _ _, hh.2.1, hh.2.2⟩))
            ·rename_i h93
             obtain ⟨x, hx, he⟩ := Option.map_eq_some_iff.1 h
             cases he
             exact value_map w g en p d t (c :: r') x.1 _ _ hr hb.2.2 hp hm.1 hm.2 (fun W hW => members_some N ih W g en (p + 1) d f c r' x.1 _ _ hW hb.2.2 (by simpa using h93) (by omega) hx)
         ·split at h
          ·rename_i h7 h8 h9 h3
           cases h
           exact leaf _ (by unfold leafOf; rw [if_neg h4, if_neg (by rw [h3]; decide), if_pos h3])
          ·cases h
theorem scpart_any (c : UInt8) (w : World) : Calls Tryz.prog 158 #[.int .u8 c.toNat] w fun e w' => e = .returned (.bool (partCh c)) /\ w' = w := by
 have h0 : (0 : Int) <= (c.toNat : Int) := Int.natCast_nonneg _
 by_cases a1 : 97 <= c.toNat <;> by_cases a2 : c.toNat <= 122 <;> by_cases a3 : 65 <= c.toNat <;> by_cases a4 : c.toNat <= 90 <;> by_cases a5 : 48 <= c.toNat <;> by_cases a6 : c.toNat <= 57 <;> by_cases a7 : c.toNat = 95
 all_goals first | (exfalso; omega) | skip
 all_goals
  have hp : Hid (partCh c = (decide (97 <= c.toNat) && decide (c.toNat <= 122) || decide (65 <= c.toNat) && decide (c.toNat <= 90) || decide (48 <= c.toNat) && decide (c.toNat <= 57) || decide (c.toNat = 95))) := rfl
  go_enter Tryz.func158, Tryz.ntmps158
  go_wp2_with fail
  go_ret
  refine ⟨?_, rfl⟩
  rw [hp.out]
  simp [a1, a2, a3, a4, a5, a6, a7] <;> omega
theorem ext_all (s : ByteArray) (i : Nat) : (s.extract i s.size).data.toList = s.data.toList.drop i := by
 rw [ext_list]
 exact List.take_of_length_le (by rw [List.length_drop, str_len]; omega)
theorem ScS.now {w W : World} {g i : Nat} {s : ByteArray} {l : List Tok} (h : ScS w W g s i l) (n : Nat) : ScS (W.drewN n) (W.drewN n) g s i l := by
 obtain ⟨v, h1, h2⟩ := h.ex
 exact ⟨⟨v, h1, h2.same (fun _ _ => rfl)⟩, Below.refl _ _⟩
theorem word_split {s wd : ByteArray} {i : Nat} (h : wordAt s i wd = true) : ∃ r, s.data.toList.drop i = wd.data.toList ++ r := by
 unfold wordAt at h
 rw [Bool.and_eq_true, decide_eq_true_eq] at h
 refine ⟨(s.data.toList.drop i).drop wd.size, ?_⟩
 conv => lhs; rw [<- List.take_append_drop wd.size (s.data.toList.drop i)]
 rw [h.1]
theorem word_any (w : World) (g i : Nat) (s wd : ByteArray) (l : List Tok) (hS : ScS w w g s i l) (hl : l.length <= 65536) (hs : s.size <= 65536) (hi : i < s.size) (hw : wd = wTrue \/ wd = wFalse \/ wd = wNull) (ha : wordAt s i wd = true) :
 Calls Tryz.prog 141 #[.pointer (some ⟨g, 0, none⟩)] w fun e w' => e = .returned (.bool true) /\ ScS w w' g s (i + wd.size) (l ++ [⟨2, 0, wd, i⟩]) := by
 obtain ⟨r, hr⟩ := word_split ha
 have hend : i + wd.size = s.size \/ (i + wd.size < s.size /\ partCh s[i + wd.size]! = false) := by
  unfold wordAt at ha
  rw [Bool.and_eq_true, Bool.or_eq_true, decide_eq_true_eq, Bool.and_eq_true, decide_eq_true_eq] at ha
  rcases ha.2 with h | h
  ·exact .inl h
  ·exact .inr ⟨of_decide_eq_true h.1, by simpa using h.2⟩
 obtain ⟨⟨v, h1, h2⟩, h3⟩ := hS
 have hgl := h1.lt
 have hA : Below w.heap.size w (w.alloc (.cells #[.string ⟨#[116, 114, 117, 101]⟩, .string ⟨#[102, 97, 108, 115, 101]⟩, .string ⟨#[110, 117, 108, 108]⟩] 9)) := (Below.refl _ _).alloc (Nat.le_refl _) _
 have hB : (w.alloc (.cells #[.string ⟨#[116, 114, 117, 101]⟩, .string ⟨#[102, 97, 108, 115, 101]⟩, .string ⟨#[110, 117, 108, 108]⟩] 9)).heap[w.heap.size]? = some (.cells #[.string ⟨#[116, 114, 117, 101]⟩, .string ⟨#[102, 97, 108, 115, 101]⟩, .string ⟨#[110, 117, 108, 108]⟩] 9 (0, 0)) := heap_alloc_at rfl
 have hs1 : (w.alloc (.cells #[.string ⟨#[116, 114, 117, 101]⟩, .string ⟨#[102, 97, 108, 115, 101]⟩, .string ⟨#[110, 117, 108, 108]⟩] 9)).heap.size = w.heap.size + 1 := by simp
 obtain ⟨W1, hW1⟩ : ∃ W1, w.alloc (.cells #[.string ⟨#[116, 114, 117, 101]⟩, .string ⟨#[102, 97, 108, 115, 101]⟩, .string ⟨#[110, 117, 108, 108]⟩] 9) = W1 := ⟨_, rfl⟩
 rw [hW1] at hA hB hs1
 have HS1 : Hid (ScS w W1 g s i l) := ⟨⟨v, h1.under hA h1.lt, h2.below hA (Nat.le_refl _)⟩, h3.trans (hA.mono (Nat.le_of_lt h1.lt))⟩
 have HZ : Hid (W1.heap.size = w.heap.size + 1 /\ g < w.heap.size) := ⟨hs1, h1.lt⟩
 have a0 : W1.cell? ⟨w.heap.size, 0, none⟩ = some (.string ⟨#[116, 114, 117, 101]⟩) := by rw [cell_of_row W1 w.heap.size 0 _ _ _ hB]; rfl
 have a1 : W1.cell? ⟨w.heap.size, 1, none⟩ = some (.string ⟨#[102, 97, 108, 115, 101]⟩) := by rw [cell_of_row W1 w.heap.size 1 _ _ _ hB]; rfl
 have a2 : W1.cell? ⟨w.heap.size, 2, none⟩ = some (.string ⟨#[110, 117, 108, 108]⟩) := by rw [cell_of_row W1 w.heap.size 2 _ _ _ hB]; rfl
 have s0 : W1.cell? ⟨g, 0, none⟩ = some (.string s) := (h1.under hA h1.lt).cell 0 rfl
 have s1 : W1.cell? ⟨g, 1, none⟩ = some (.int .i64 i) := (h1.under hA h1.lt).cell 1 rfl
 have zg : g < W1.heap.size := by omega
 have i0 : (0 : Int) <= (i : Int) := Int.natCast_nonneg _
 have i1 : (i : Int) <= (s.size : Int) := by omega
 have i2 : i < 4398046510976 := by omega
 have HR : Hid (s.data.toList.drop i = wd.data.toList ++ r) := hr
 have HEND : Hid (i + wd.size = s.size \/ (i + wd.size < s.size /\ partCh s[i + wd.size]! = false)) := hend
 have HW := Lib.hid hw
 have HL : Hid (l.length <= 65536 /\ s.size <= 65536) := ⟨hl, hs⟩
 obtain ⟨m, hm⟩ : ∃ m : Nat, (m = 0 /\ wd = wTrue) \/ (m = 1 /\ wd = wFalse) \/ (m = 2 /\ wd = wNull) := by
  rcases hw with h | h | h
  ·exact ⟨0, .inl ⟨rfl, h⟩⟩
  ·exact ⟨1, .inr (.inl ⟨rfl, h⟩)⟩
  ·exact ⟨2, .inr (.inr ⟨rfl, h⟩)⟩
 have HM := Lib.hid hm
 have hm2 : m <= 2 := by rcases hm with h | h | h <;> omega
 clear hr hend h1 h2 h3 hA hB hs1 hl hs hi ha hw hm
 go_enter Tryz.func141, Tryz.ntmps141
 go_upto_region 2 with fail
 try rw [hW1]
 clear hW1
 go_wp2_with fail
 go_loopw [8] (fun o wr => ∃ k : Nat, k <= m /\ o = .int .i64 (k : Int) /\ ∃ n, wr = W1.drewN n) (fun o _ => 3 - (intOf o).toNat)
 case atStart => exact ⟨0, Nat.zero_le _, rfl, 0, rfl⟩
 case round =>
  obtain ⟨k, hk, rfl, nr, rfl⟩ := hrel
  have hk3 : k = 0 \/ k = 1 \/ k = 2 := by omega
  rcases hk3 with rfl | rfl | rfl
  ·by_cases hkm : 0 = m
   ·subst hkm
    have hwd : wd = wTrue := by rcases HM.out with h | h | h <;> first | exact h.2 | (exfalso; omega)
    have HP : Hid (∀ n, Calls Tryz.prog 157 #[.string (s.extract i s.size), .string ⟨#[116, 114, 117, 101]⟩] (W1.drewN n) fun e w' => e = .returned (.bool true) /\ w' = W1.drewN n) := fun n => (strings_HasPrefix _ _ _).mono (fun e w' h => ⟨by rw [h.1, ext_all, HR.out, hwd]; simp [Lib.hasPrefix, wTrue, List.isPrefixOf], h.2⟩)
    have hen := HEND.out
    rw [hwd] at hen
    have hsz : (wTrue).size = 4 := rfl
    rw [hsz] at hen
    have HWD := Lib.hid hwd
    clear hwd
    rcases hen with hen | ⟨hen1, hen2⟩
    ·have q1 : (((i : Int) + 4) == (s.size : Int)) = true := by simp; omega
     go_wp2_with fail
     go_quiet ((go_at_call 157; exact (HP.out _).mono (fun e w' h => ⟨h.1, _, h.2⟩)))
     go_wp2_with fail
     refine (lay_any _ g i (i + 4) 0 0 s ⟨#[116, 114, 117, 101]⟩ 2 l (HS1.out.now _) HL.out.1).mono ?_
     rintro e w4 ⟨rfl, hS4⟩
     go_wp2_with fail
     go_ret
     refine ⟨rfl, ?_⟩
     rw [HWD.out]
     exact ⟨hS4.ex, HS1.out.below.trans ((bdn (Below.refl _ _) _).trans hS4.below)⟩
    ·have q1 : (((i : Int) + 4) == (s.size : Int)) = false := by simp; omega
     have HPT : Hid (∀ n, Calls Tryz.prog 158 #[.int .u8 s[i + 4].toNat] (W1.drewN n) fun e w' => e = .returned (.bool false) /\ w' = W1.drewN n) := fun n => (scpart_any _ _).mono (fun e w' h => ⟨by rw [h.1, <- get_bang s (i + 4) hen1, hen2], h.2⟩)
     have i3 : ((i : Int) + 4) < (s.size : Int) := by omega
     have i4 : (0 : Int) <= (i : Int) + 4 := by omega
     have i5 : ((i : Int) + 4).toNat = i + 4 := by omega
     go_wp2_with fail
     go_quiet (first | (go_at_call 157; exact (HP.out _).mono (fun e w' h => ⟨h.1, _, h.2⟩)) | (go_at_call 158; exact (HPT.out _).mono (fun e w' h => ⟨h.1, _, h.2⟩)))
     go_wp2_with fail
     refine (lay_any _ g i (i + 4) 0 0 s ⟨#[116, 114, 117, 101]⟩ 2 l (HS1.out.now _) HL.out.1).mono ?_
     rintro e w4 ⟨rfl, hS4⟩
     go_wp2_with fail
     go_ret
     refine ⟨rfl, ?_⟩
     rw [HWD.out]
     exact ⟨hS4.ex, HS1.out.below.trans ((bdn (Below.refl _ _) _).trans hS4.below)⟩
   ·have hlt : 0 < m := by omega
    have HP : Hid (∀ n, Calls Tryz.prog 157 #[.string (s.extract i s.size), .string ⟨#[116, 114, 117, 101]⟩] (W1.drewN n) fun e w' => e = .returned (.bool false) /\ w' = W1.drewN n) := fun n => (strings_HasPrefix _ _ _).mono (fun e w' h => ⟨by
     rw [h.1, ext_all, HR.out]
     rcases HM.out with h | h | h
     ·exfalso; omega
     ·rw [h.2]; first | (exfalso; omega) | simp [Lib.hasPrefix, wFalse, List.isPrefixOf]
     ·rw [h.2]; simp [Lib.hasPrefix, wNull, List.isPrefixOf], h.2⟩)
    go_wp2_with fail
    go_quiet ((go_at_call 157; exact (HP.out _).mono (fun e w' h => ⟨h.1, _, h.2⟩)))
    go_wp2_with fail
    go_roundw
    case rel => exact ⟨0 + 1, by omega, by go_num, _, rfl⟩
    case measure => first | (simp [intOf]; done) | (simp [intOf]; omega)
  ·by_cases hkm : 1 = m
   ·subst hkm
    have hwd : wd = wFalse := by rcases HM.out with h | h | h <;> first | exact h.2 | (exfalso; omega)
    have HP : Hid (∀ n, Calls Tryz.prog 157 #[.string (s.extract i s.size), .string ⟨#[102, 97, 108, 115, 101]⟩] (W1.drewN n) fun e w' => e = .returned (.bool true) /\ w' = W1.drewN n) := fun n => (strings_HasPrefix _ _ _).mono (fun e w' h => ⟨by rw [h.1, ext_all, HR.out, hwd]; simp [Lib.hasPrefix, wFalse, List.isPrefixOf], h.2⟩)
    have hen := HEND.out
    rw [hwd] at hen
    have hsz : (wFalse).size = 5 := rfl
    rw [hsz] at hen
    have HWD := Lib.hid hwd
    clear hwd
    rcases hen with hen | ⟨hen1, hen2⟩
    ·have q1 : (((i : Int) + 5) == (s.size : Int)) = true := by simp; omega
     go_wp2_with fail
     go_quiet ((go_at_call 157; exact (HP.out _).mono (fun e w' h => ⟨h.1, _, h.2⟩)))
     go_wp2_with fail
     refine (lay_any _ g i (i + 5) 0 0 s ⟨#[102, 97, 108, 115, 101]⟩ 2 l (HS1.out.now _) HL.out.1).mono ?_
     rintro e w4 ⟨rfl, hS4⟩
     go_wp2_with fail
     go_ret
     refine ⟨rfl, ?_⟩
     rw [HWD.out]
     exact ⟨hS4.ex, HS1.out.below.trans ((bdn (Below.refl _ _) _).trans hS4.below)⟩
    ·have q1 : (((i : Int) + 5) == (s.size : Int)) = false := by simp; omega
     have HPT : Hid (∀ n, Calls Tryz.prog 158 #[.int .u8 s[i + 5].toNat] (W1.drewN n) fun e w' => e = .returned (.bool false) /\ w' = W1.drewN n) := fun n => (scpart_any _ _).mono (fun e w' h => ⟨by rw [h.1, <- get_bang s (i + 5) hen1, hen2], h.2⟩)
     have i3 : ((i : Int) + 5) < (s.size : Int) := by omega
     have i4 : (0 : Int) <= (i : Int) + 5 := by omega
     have i5 : ((i : Int) + 5).toNat = i + 5 := by omega
     go_wp2_with fail
     go_quiet (first | (go_at_call 157; exact (HP.out _).mono (fun e w' h => ⟨h.1, _, h.2⟩)) | (go_at_call 158; exact (HPT.out _).mono (fun e w' h => ⟨h.1, _, h.2⟩)))
     go_wp2_with fail
     refine (lay_any _ g i (i + 5) 0 0 s ⟨#[102, 97, 108, 115, 101]⟩ 2 l (HS1.out.now _) HL.out.1).mono ?_
     rintro e w4 ⟨rfl, hS4⟩
     go_wp2_with fail
     go_ret
     refine ⟨rfl, ?_⟩
     rw [HWD.out]
     exact ⟨hS4.ex, HS1.out.below.trans ((bdn (Below.refl _ _) _).trans hS4.below)⟩
   ·have hlt : 1 < m := by omega
    have HP : Hid (∀ n, Calls Tryz.prog 157 #[.string (s.extract i s.size), .string ⟨#[102, 97, 108, 115, 101]⟩] (W1.drewN n) fun e w' => e = .returned (.bool false) /\ w' = W1.drewN n) := fun n => (strings_HasPrefix _ _ _).mono (fun e w' h => ⟨by
     rw [h.1, ext_all, HR.out]
     rcases HM.out with h | h | h
     ·exfalso; omega
     ·rw [h.2]; first | (exfalso; omega) | simp [Lib.hasPrefix, wFalse, List.isPrefixOf]
     ·rw [h.2]; simp [Lib.hasPrefix, wNull, List.isPrefixOf], h.2⟩)
    go_wp2_with fail
    go_quiet ((go_at_call 157; exact (HP.out _).mono (fun e w' h => ⟨h.1, _, h.2⟩)))
    go_wp2_with fail
    go_roundw
    case rel => exact ⟨1 + 1, by omega, by go_num, _, rfl⟩
    case measure => first | (simp [intOf]; done) | (simp [intOf]; omega)
  ·by_cases hkm : 2 = m
   ·subst hkm
    have hwd : wd = wNull := by rcases HM.out with h | h | h <;> first | exact h.2 | (exfalso; omega)
    have HP : Hid (∀ n, Calls Tryz.prog 157 #[.string (s.extract i s.size), .string ⟨#[110, 117, 108, 108]⟩] (W1.drewN n) fun e w' => e = .returned (.bool true) /\ w' = W1.drewN n) := fun n => (strings_HasPrefix _ _ _).mono (fun e w' h => ⟨by rw [h.1, ext_all, HR.out, hwd]; simp [Lib.hasPrefix, wNull, List.isPrefixOf], h.2⟩)
    have hen := HEND.out
    rw [hwd] at hen
    have hsz : (wNull).size = 4 := rfl
    rw [hsz] at hen
    have HWD := Lib.hid hwd
    clear hwd
    rcases hen with hen | ⟨hen1, hen2⟩
    ·have q1 : (((i : Int) + 4) == (s.size : Int)) = true := by simp; omega
     go_wp2_with fail
     go_quiet ((go_at_call 157; exact (HP.out _).mono (fun e w' h => ⟨h.1, _, h.2⟩)))
     go_wp2_with fail
     refine (lay_any _ g i (i + 4) 0 0 s ⟨#[110, 117, 108, 108]⟩ 2 l (HS1.out.now _) HL.out.1).mono ?_
     rintro e w4 ⟨rfl, hS4⟩
     go_wp2_with fail
     go_ret
     refine ⟨rfl, ?_⟩
     rw [HWD.out]
     exact ⟨hS4.ex, HS1.out.below.trans ((bdn (Below.refl _ _) _).trans hS4.below)⟩
    ·have q1 : (((i : Int) + 4) == (s.size : Int)) = false := by simp; omega
     have HPT : Hid (∀ n, Calls Tryz.prog 158 #[.int .u8 s[i + 4].toNat] (W1.drewN n) fun e w' => e = .returned (.bool false) /\ w' = W1.drewN n) := fun n => (scpart_any _ _).mono (fun e w' h => ⟨by rw [h.1, <- get_bang s (i + 4) hen1, hen2], h.2⟩)
     have i3 : ((i : Int) + 4) < (s.size : Int) := by omega
     have i4 : (0 : Int) <= (i : Int) + 4 := by omega
     have i5 : ((i : Int) + 4).toNat = i + 4 := by omega
     go_wp2_with fail
     go_quiet (first | (go_at_call 157; exact (HP.out _).mono (fun e w' h => ⟨h.1, _, h.2⟩)) | (go_at_call 158; exact (HPT.out _).mono (fun e w' h => ⟨h.1, _, h.2⟩)))
     go_wp2_with fail
     refine (lay_any _ g i (i + 4) 0 0 s ⟨#[110, 117, 108, 108]⟩ 2 l (HS1.out.now _) HL.out.1).mono ?_
     rintro e w4 ⟨rfl, hS4⟩
     go_wp2_with fail
     go_ret
     refine ⟨rfl, ?_⟩
     rw [HWD.out]
     exact ⟨hS4.ex, HS1.out.below.trans ((bdn (Below.refl _ _) _).trans hS4.below)⟩
   ·exfalso; omega
theorem indexByte_u8 (l : List UInt8) (c : UInt8) : Lib.indexByte l ((c.toNat : Int)).toNat.toUInt8 = Lib.indexByte l c := by
 rw [Int.toNat_natCast]
 congr 1
 simp
theorem ScS.cells {w W : World} {g i : Nat} {s : ByteArray} {l : List Tok} (h : ScS w W g s i l) : W.cell? ⟨g, 0, none⟩ = some (.string s) /\ W.cell? ⟨g, 1, none⟩ = some (.int .i64 i) /\ g < W.heap.size := by
 obtain ⟨v, h1, h2⟩ := h.ex
 exact ⟨h1.cell 0 rfl, h1.cell 1 rfl, h1.lt⟩
theorem ScS.call {w W W' : World} {g i : Nat} {s : ByteArray} {l : List Tok} (h : ScS w W g s i l) (hb : Below W.heap.size W W') : ScS w W' g s i l := by
 obtain ⟨⟨v, h1, h2⟩, h3⟩ := h
 exact ⟨⟨v, h1.under hb h1.lt, h2.below hb (Nat.le_refl _)⟩, h3.trans (hb.mono (Nat.le_of_lt h1.lt))⟩
theorem ScS.self {w W : World} {g i : Nat} {s : ByteArray} {l : List Tok} (h : ScS w W g s i l) : ScS W W g s i l := ⟨h.ex, Below.refl _ _⟩
theorem one_mark (w : World) (g i : Nat) (s : ByteArray) (l : List Tok) (hS : ScS w w g s i l) (hl : l.length <= 65536) (hs : s.size <= 65536) (hi : i < s.size) (ha : mkCh s[i]! = true) :
 Calls Tryz.prog 105 #[.pointer (some ⟨g, 0, none⟩)] w fun e w' => e = .returned (.int .i64 0) /\ ScS w w' g s (i + 1) (l ++ [⟨1, 0, ⟨#[s[i]!]⟩, i⟩]) := by
 have ht : s.extract i (i + 1) = ⟨#[s[i]!]⟩ := bytes_ext (ext_one hi)
 have HLY : Hid (∀ n, Calls Tryz.prog 139 #[.pointer (some ⟨g, 0, none⟩), .agg #[.int .i64 1, .int .i64 0, .string (s.extract i (i + 1)), .int .i64 0], .int .i64 ((i : Int) + 1)] (w.drewN n) fun e w' => e = .returned (.tuple #[]) /\ ScS (w.drewN n) w' g s (i + 1) (l ++ [⟨1, 0, s.extract i (i + 1), i⟩])) := fun n => lay_any (w.drewN n) g i (i + 1) 0 0 s (s.extract i (i + 1)) 1 l (hS.now n) hl
 rw [<- ht]
 obtain ⟨c0, c1, hg⟩ := hS.cells
 have hmk := ha
 unfold mkCh at ha
 simp only [Bool.or_eq_true, decide_eq_true_eq] at ha
 rw [get_bang s i hi] at ha hmk
 have HIX : Hid (∀ W, Calls Tryz.prog 104 #[.string ⟨#[123, 125, 91, 93, 58, 44]⟩, .int .u8 (s[i].toNat : Int)] W fun e w' => e = .returned (.int .i64 (Lib.indexByte [123, 125, 91, 93, 58, 44] s[i])) /\ w' = W) := fun W => (strings_IndexByte _ _ W).mono (fun e w' h => ⟨by rw [h.1, indexByte_u8], h.2⟩)
 have hix := mk_index s[i]
 rw [hmk] at hix
 have hix2 : 0 <= Lib.indexByte [123, 125, 91, 93, 58, 44] s[i] := of_decide_eq_true hix
 obtain ⟨x, hx⟩ : ∃ x, Lib.indexByte [123, 125, 91, 93, 58, 44] s[i] = x := ⟨_, rfl⟩
 rw [hx] at HIX hix hix2
 have i0 : (0 : Int) <= (i : Int) := Int.natCast_nonneg _
 have i1 : (i : Int) < (s.size : Int) := by omega
 have i2 : i < 4398046510976 := by omega
 have e1 : (((s[i].toNat : Nat) : Int) == 34) = false := by simp; omega
 have e2 : (((s[i].toNat : Nat) : Int) == 45) = false := by simp; omega
 have e3 : s[i].toNat < 48 \/ (48 <= s[i].toNat /\ 57 < s[i].toNat) := by omega
 have k1 : IntKind.i64.wrap ((i : Int) + 1) = (i : Int) + 1 := IntWalk.i64_in _ (by omega)
 have k2 : (0 : Int) <= (i : Int) + 1 := by omega
 have k3 : ((i : Int) + 1).toNat = i + 1 := by omega
 have k4 : (i : Int) + 1 <= (s.size : Int) := by omega
 have k5 : (i : Int) <= (i : Int) + 1 := by omega
 have HI := Lib.hid hi
 clear ha hmk ht hx hs hl hS
 rcases e3 with e3 | ⟨e3, e4⟩
 all_goals first
  | (have q1 : ¬ (48 <= s[i].toNat) := by omega
     have q2 : ¬ ((48 : Int) <= ((s[i].toNat : Nat) : Int)) := by omega
     have q3 : decide ((48 : Int) <= ((s[i].toNat : Nat) : Int)) = false := decide_eq_false q2
     have q4 : decide (48 <= s[i].toNat) = false := decide_eq_false q1
     have q5 : True := trivial
     have q6 : True := trivial
     have q7 : True := trivial)
  | (have q1 : ¬ (s[i].toNat <= 57) := by omega
     have q2 : ¬ (((s[i].toNat : Nat) : Int) <= 57) := by omega
     have q3 : decide (((s[i].toNat : Nat) : Int) <= 57) = false := decide_eq_false q2
     have q4 : decide (s[i].toNat <= 57) = false := decide_eq_false q1
     have q5 : ((48 : Int) <= ((s[i].toNat : Nat) : Int)) := by omega
     have q6 : decide ((48 : Int) <= ((s[i].toNat : Nat) : Int)) = true := decide_eq_true q5
     have q7 : decide (48 <= s[i].toNat) = true := decide_eq_true e3)
 all_goals
  go_enter Tryz.func105, Tryz.ntmps105
  go_wp2_with fail
  go_quiet (fail)
  go_wp2_with (go_at_call 104; refine (HIX.out _).mono ?_; rintro e w1 ⟨rfl, rfl⟩)
  have HL2 := Lib.hid (HLY.out (nq + 1))
  have c0' : (w.drewN nq).cell? ⟨g, 0, none⟩ = some (.string s) := c0
  have c1' : (w.drewN nq).cell? ⟨g, 1, none⟩ = some (.int .i64 i) := c1
  have hdd : (w.drewN nq).drew = w.drewN (nq + 1) := rfl
  rw [<- hdd] at HL2
  obtain ⟨W, hW⟩ : ∃ W, w.drewN nq = W := ⟨_, rfl⟩
  rw [hW] at c0' c1' HL2
  try rw [hW]
  have c0'' : ({ heap := W.heap, tape := W.tape, drawn := W.drawn + 1, os := W.os, output := W.output } : World).cell? ⟨g, 0, none⟩ = some (.string s) := c0'
  have c1'' : ({ heap := W.heap, tape := W.tape, drawn := W.drawn + 1, os := W.os, output := W.output } : World).cell? ⟨g, 1, none⟩ = some (.int .i64 i) := c1'
  go_still_tail 21, (by kernel_rfl)
  change wpList _ _ _ _ _ W.drew
  have HBW : Hid (Below w.heap.size w W.drew) := by rw [<- hW]; exact bdn (Below.refl _ _) (nq + 1)
  generalize W.drew = W2 at HL2 HBW ⊢
  clear c0' c1' c0'' c1'' hW hdd
  go_wp2_with (go_at_call 139; refine HL2.out.mono ?_; rintro e w4 ⟨rfl, hS4⟩)
  go_ret
  exact ⟨rfl, hS4.ex, (HBW.out.mono (Nat.le_of_lt hg)).trans hS4.below⟩
theorem one_text (w : World) (g i j : Nat) (s : ByteArray) (l : List Tok) (hS : ScS w w g s i l) (hl : l.length <= 65536) (hs : s.size <= 65536) (hij : i < j) (hj : j < s.size) (h0 : s[i]!.toNat = 34) (hm : ∀ k, i < k -> k < j -> okCh s[k]! = true) (h1 : s[j]!.toNat = 34) :
 Calls Tryz.prog 105 #[.pointer (some ⟨g, 0, none⟩)] w fun e w' => e = .returned (.int .i64 0) /\ ScS w w' g s (j + 1) (l ++ [⟨4, 0, cutB s (i + 1) j, i⟩]) := by
 have HCR : Hid (∀ n, Calls Tryz.prog 138 #[.string s, .int .i64 i] (w.drewN n) fun e w' => e = .returned (.tuple #[.string (cutB s (i + 1) j), .int .i64 ((j : Int) + 1), .int .i64 0]) /\ Below (w.drewN n).heap.size (w.drewN n) w') := fun n => cread_plain s i j (w.drewN n) hs hij hj h0 hm h1
 have HLY : Hid (∀ W, ScS W W g s i l -> Calls Tryz.prog 139 #[.pointer (some ⟨g, 0, none⟩), .agg #[.int .i64 4, .int .i64 0, .string (cutB s (i + 1) j), .int .i64 0], .int .i64 ((j : Int) + 1)] W fun e w' => e = .returned (.tuple #[]) /\ ScS W w' g s (j + 1) (l ++ [⟨4, 0, cutB s (i + 1) j, i⟩])) := fun W h => lay_any W g i (j + 1) 0 0 s (cutB s (i + 1) j) 4 l h hl
 obtain ⟨c0, c1, hg⟩ := hS.cells
 have hi : i < s.size := by omega
 rw [get_bang s i hi] at h0
 have i0 : (0 : Int) <= (i : Int) := Int.natCast_nonneg _
 have i1 : (i : Int) < (s.size : Int) := by omega
 have i2 : i < 4398046510976 := by omega
 have e1 : (((s[i].toNat : Nat) : Int) == 34) = true := by simp; omega
 have HSS := Lib.hid hS
 obtain ⟨x, hx⟩ : ∃ x, cutB s (i + 1) j = x := ⟨_, rfl⟩
 rw [hx] at HCR HLY
 rw [hx]
 clear hm h0 h1 hx hs hl hS
 go_enter Tryz.func105, Tryz.ntmps105
 go_wp2_with fail
 go_quiet (fail)
 go_wp2_with fail
 have keep : ∀ (n : Nat) (w3 : World), Below (w.drewN n).heap.size (w.drewN n) w3 -> w3.cell? ⟨g, 0, none⟩ = some (.string s) /\ w3.cell? ⟨g, 1, none⟩ = some (.int .i64 i) := fun n w3 hb => ⟨bcs hb hg c0, bcs hb hg c1⟩
 have HK := Lib.hid keep
 clear keep
 go_region_held3 (fun w' => w'.cell? ⟨g, 0, none⟩ = some (.string s) /\ w'.cell? ⟨g, 1, none⟩ = some (.int .i64 i))
  (first | exact ⟨c0, c1⟩ | exact hc3)
  ((go_at_call 138; refine (HCR.out _).mono ?_; rintro e w3 ⟨rfl, hb3⟩; have hc3 := HK.out _ _ hb3))
 have HB3 : Hid (Below w.heap.size w w3) := (bdn (Below.refl _ _) _).trans hb3
 clear hb3
 go_wp2_with (go_at_call 139; refine (HLY.out _ (HSS.out.call HB3.out).self).mono ?_; rintro e w4 ⟨rfl, hS4⟩)
 go_ret
 exact ⟨rfl, hS4.ex, (HB3.out.mono (Nat.le_of_lt hg)).trans hS4.below⟩
theorem word_first {s wd : ByteArray} {i : Nat} (hw : wd = wTrue \/ wd = wFalse \/ wd = wNull) (hi : i < s.size) (ha : wordAt s i wd = true) : s[i]! = 116 \/ s[i]! = 102 \/ s[i]! = 110 := by
 obtain ⟨r, hr⟩ := word_split ha
 have h1 : (s.data.toList.drop i)[0]? = some s[i]! := by
  rw [List.getElem?_drop, Nat.add_zero, List.getElem?_eq_getElem (by rw [Array.length_toList]; exact hi), get_bang s i hi]
  rfl
 rw [hr] at h1
 rcases hw with rfl | rfl | rfl
 ·left; simp [wTrue] at h1; exact h1.symm
 ·right; left; simp [wFalse] at h1; exact h1.symm
 ·right; right; simp [wNull] at h1; exact h1.symm
theorem one_word (w : World) (g i : Nat) (s wd : ByteArray) (l : List Tok) (hS : ScS w w g s i l) (hl : l.length <= 65536) (hs : s.size <= 65536) (hi : i < s.size) (hw : wd = wTrue \/ wd = wFalse \/ wd = wNull) (ha : wordAt s i wd = true) :
 Calls Tryz.prog 105 #[.pointer (some ⟨g, 0, none⟩)] w fun e w' => e = .returned (.int .i64 0) /\ ScS w w' g s (i + wd.size) (l ++ [⟨2, 0, wd, i⟩]) := by
 have HWD : Hid (∀ n, Calls Tryz.prog 141 #[.pointer (some ⟨g, 0, none⟩)] (w.drewN n) fun e w' => e = .returned (.bool true) /\ ScS (w.drewN n) w' g s (i + wd.size) (l ++ [⟨2, 0, wd, i⟩])) := fun n => word_any (w.drewN n) g i s wd l (hS.now n) hl hs hi hw ha
 have hf := word_first hw hi ha
 obtain ⟨c0, c1, hg⟩ := hS.cells
 have hmk : mkCh s[i]! = false := by rcases hf with h | h | h <;> rw [h] <;> decide
 rw [get_bang s i hi] at hf hmk
 have hb : s[i].toNat = 116 \/ s[i].toNat = 102 \/ s[i].toNat = 110 := by rcases hf with h | h | h <;> rw [h] <;> decide
 have HIX : Hid (∀ W, Calls Tryz.prog 104 #[.string ⟨#[123, 125, 91, 93, 58, 44]⟩, .int .u8 (s[i].toNat : Int)] W fun e w' => e = .returned (.int .i64 (Lib.indexByte [123, 125, 91, 93, 58, 44] s[i])) /\ w' = W) := fun W => (strings_IndexByte _ _ W).mono (fun e w' h => ⟨by rw [h.1, indexByte_u8], h.2⟩)
 have hix := mk_index s[i]
 rw [hmk] at hix
 have hix2 : ¬ (0 <= Lib.indexByte [123, 125, 91, 93, 58, 44] s[i]) := of_decide_eq_false hix
 obtain ⟨x, hx⟩ : ∃ x, Lib.indexByte [123, 125, 91, 93, 58, 44] s[i] = x := ⟨_, rfl⟩
 rw [hx] at HIX hix hix2
 have i0 : (0 : Int) <= (i : Int) := Int.natCast_nonneg _
 have i1 : (i : Int) < (s.size : Int) := by omega
 have i2 : i < 4398046510976 := by omega
 have e1 : (((s[i].toNat : Nat) : Int) == 34) = false := by simp; omega
 have e2 : (((s[i].toNat : Nat) : Int) == 45) = false := by simp; omega
 have q1 : ¬ (s[i].toNat <= 57) := by omega
 have q2 : ¬ (((s[i].toNat : Nat) : Int) <= 57) := by omega
 have q3 : decide (((s[i].toNat : Nat) : Int) <= 57) = false := decide_eq_false q2
 have q4 : decide (s[i].toNat <= 57) = false := decide_eq_false q1
 have q5 : ((48 : Int) <= ((s[i].toNat : Nat) : Int)) := by omega
 have q6 : decide ((48 : Int) <= ((s[i].toNat : Nat) : Int)) = true := decide_eq_true q5
 have q8 : 48 <= s[i].toNat := by omega
 have q7 : decide (48 <= s[i].toNat) = true := decide_eq_true q8
 have hlt : x < 0 := by omega
 clear hf hmk hb hx hs hl hS ha
 go_enter Tryz.func105, Tryz.ntmps105
 go_wp2_with fail
 go_quiet (fail)
 go_wp2_with (first
  | (go_at_call 104; refine (HIX.out _).mono ?_; rintro e w1 ⟨rfl, rfl⟩)
  | (go_at_call 141; refine (HWD.out _).mono ?_; rintro e w4 ⟨rfl, hS4⟩))
 go_ret
 exact ⟨rfl, hS4.ex, (bdn (Below.refl _ _) _).trans hS4.below⟩
theorem ret_intN {k : IntKind} {a b : Int} (h : a = b) : Ending.returned (.int k a) = .returned (.int k b) := by rw [h]
theorem span_one (s : ByteArray) (i : Nat) (w : World) (hs : s.size <= 65536) (hi : i + 1 < s.size) (h1 : 49 <= s[i].toNat) (h2 : s[i].toNat <= 57) (h3 : s[i + 1].toNat = 125) :
 Calls Tryz.prog 155 #[.string s, .int .i64 (i : Int)] w fun e w' => e = .returned (.int .i64 ((i : Int) + 1)) /\ w' = w := by
 have i0 : (0 : Int) <= (i : Int) := Int.natCast_nonneg _
 go_enter Tryz.func155, Tryz.ntmps155
 go_wp2_with fail
 have HI : Hid (∀ k, k = i + 1 -> (h : k < s.size) -> s[k].toNat = 125) := fun k e h => by subst e; exact h3
 go_loopw [1] (fun a wr => ∃ k : Nat, k < s.size /\ (k = i \/ k = i + 1) /\ a = .int .i64 (k : Int) /\ w = wr) (fun a _ => (s.size - (intOf a).toNat))
 case atStart => exact ⟨i, by omega, .inl rfl, rfl, rfl⟩
 case round =>
  obtain ⟨k, hk, hki, rfl, rfl⟩ := hrel
  have k0 : (0 : Int) <= (k : Int) := Int.natCast_nonneg _
  have k1 : (k : Int) < (s.size : Int) := by omega
  by_cases he : k = i
  ·subst he
   have q1 : ((48 : Int) <= ((s[k].toNat : Nat) : Int)) := by omega
   have q2 : (((s[k].toNat : Nat) : Int) <= 57) := by omega
   have q3 : decide ((48 : Int) <= ((s[k].toNat : Nat) : Int)) = true := decide_eq_true q1
   have q4 : decide (((s[k].toNat : Nat) : Int) <= 57) = true := decide_eq_true q2
   have q5 : 48 <= s[k].toNat := by omega
   clear h3
   go_wp2_with fail
   go_roundw
   case rel => exact ⟨k + 1, hi, .inr rfl, by go_num, by trivial⟩
   case measure => simp [intOf]; omega
  ·have hk2 : k = i + 1 := by omega
   have q0 := HI.out k hk2 hk
   have q1 : ((48 : Int) <= ((s[k].toNat : Nat) : Int)) := by omega
   have q2 : ¬ (((s[k].toNat : Nat) : Int) <= 57) := by omega
   have q3 : decide ((48 : Int) <= ((s[k].toNat : Nat) : Int)) = true := decide_eq_true q1
   have q4 : decide (((s[k].toNat : Nat) : Int) <= 57) = false := decide_eq_false q2
   have q5 : 48 <= s[k].toNat := by omega
   have q6 : ¬ s[k].toNat <= 57 := by omega
   have HK2 := Lib.hid hk2
   clear h3 q0 h1 h2 hk2 hki he hi
   go_wp2_with fail
   go_ret
   exact ⟨ret_intN (by have := HK2.out; omega), rfl⟩
theorem value_one (s : ByteArray) (w : World) (hs : s.size = 1) (h1 : 49 <= s[0].toNat) (h2 : s[0].toNat <= 57) :
 Calls Tryz.prog 156 #[.string s] w fun e w' => e = .returned (.tuple #[.int .i64 ((s[0].toNat : Int) - 48), .bool true]) /\ w' = w := by
 obtain ⟨d, hd⟩ : ∃ d, s[0] = d := ⟨_, rfl⟩
 rw [hd] at h1 h2
 rw [hd]
 have HD : Hid (∀ k, k = 0 -> (h : k < s.size) -> s[k] = d) := fun k e h => by subst e; exact hd
 have hlt := d.toNat_lt
 clear hd
 go_enter Tryz.func156, Tryz.ntmps156
 go_wp2_with fail
 go_loopw [4, 8] (fun a b wr => ((b = .int .i64 0 /\ a = .int .i64 0) \/ (b = .int .i64 1 /\ a = .int .i64 ((d.toNat : Int) - 48))) /\ w = wr) (fun _ b _ => (1 - (intOf b).toNat))
 case atStart => exact ⟨.inl ⟨rfl, rfl⟩, rfl⟩
 case round =>
  obtain ⟨hrel, rfl⟩ := hrel
  rcases hrel with ⟨rfl, rfl⟩ | ⟨rfl, rfl⟩
  ·have l1 : (0 : Int) < (s.size : Int) := by omega
   have l2 : 0 < s.size := by omega
   have hd := HD.out 0 rfl l2
   have hw : IntKind.u8.wrap ((d.toNat : Int) - 48) = (d.toNat : Int) - 48 := by
    unfold IntKind.wrap
    simp [IntKind.bits, IntKind.signed]
    try omega
   go_wp2_with fail
   exact ⟨⟨.inr ⟨rfl, rfl⟩, trivial⟩, by simp [intOf]⟩
  ·have l1 : (s.size : Int) = 1 := by omega
   go_wp2_with fail
   refine bodyPost_ret (v := .tuple #[.int .i64 ((d.toNat : Int) - 48), .bool true]) (by simp [results, Tryz.results156, go_sem]) rfl ⟨rfl, rfl⟩
theorem ext_oneN (s : ByteArray) (i : Nat) (h : i < s.size) : (s.extract i (i + 1)).size = 1 /\ ∀ h', (s.extract i (i + 1))[0]'h' = s[i] := by
 refine ⟨by rw [ByteArray.size_extract]; omega, fun h' => ?_⟩
 simp [ByteArray.getElem_extract]
theorem numsRead_one (s : ByteArray) (i : Nat) (w : World) (hs : s.size <= 65536) (hi : i + 1 < s.size) (h1 : 49 <= s[i].toNat) (h2 : s[i].toNat <= 57) (h3 : s[i + 1].toNat = 125) :
 Calls Tryz.prog 140 #[.string s, .int .i64 (i : Int)] w fun e w' => e = .returned (.tuple #[.int .i64 ((s[i].toNat : Int) - 48), .int .i64 ((i : Int) + 1), .int .i64 0]) /\ w' = w := by
 have HSP : Hid (∀ W, Calls Tryz.prog 155 #[.string s, .int .i64 (i : Int)] W fun e w' => e = .returned (.int .i64 ((i : Int) + 1)) /\ w' = W) := fun W => span_one s i W hs hi h1 h2 h3
 obtain ⟨z1, z2⟩ := ext_oneN s i (by omega)
 have HVA : Hid (∀ W, Calls Tryz.prog 156 #[.string (s.extract i (i + 1))] W fun e w' => e = .returned (.tuple #[.int .i64 ((s[i].toNat : Int) - 48), .bool true]) /\ w' = W) := fun W => by
  have := value_one (s.extract i (i + 1)) W z1 (by rw [z2]; exact h1) (by rw [z2]; exact h2)
  rw [z2] at this
  exact this
 have hor : ∀ x : UInt8, x.toNat = 125 -> (IntKind.u8.wrap ((125 : Int)) = 125) := fun _ _ => rfl
 obtain ⟨k, hk⟩ : ∃ k, i + 1 = k := ⟨_, rfl⟩
 rw [hk] at HVA
 have i0 : (0 : Int) <= (i : Int) := Int.natCast_nonneg _
 have i1 : (i : Int) < (s.size : Int) := by omega
 have e1 : (((s[i].toNat : Nat) : Int) == 45) = false := by simp; omega
 have e2 : (((s[i].toNat : Nat) : Int) == 48) = false := by simp; omega
 have i2 : (i : Int) + 1 < (s.size : Int) := by omega
 clear z1 z2 hor
 go_enter Tryz.func140, Tryz.ntmps140
 go_upto_region 7 with (go_at_call 155; (with_reducible refine (HSP.out _).mono ?_); rintro e w1 ⟨rfl, rfl⟩)
 have e3 : (((i : Int) + 1) == (i : Int)) = false := by (rw [beq_eq_false_iff_ne]; omega)
 have e5 : (i : Int) + 1 - (i : Int) = 1 := by omega
 have hk' : k < s.size := by omega
 have gk : s[k].toNat = 125 := by subst hk; exact h3
 have q1 : (((s[k].toNat : Nat) : Int) == 46) = false := by rw [gk]; rfl
 have q2 : ¬ ((s[k].toNat : Nat) : Int) = 46 := by omega
 have q3 : (bits BinOp.or IntKind.u8 ((s[k].toNat : Nat) : Int) 32 == 101) = false := by rw [gk]; rfl
 clear gk h3 h1 h2
 go_wp2_with (go_at_call 156; (with_reducible refine (HVA.out _).mono ?_); rintro e w2 ⟨rfl, rfl⟩)
 refine bodyPost_ret (v := .tuple #[.int .i64 ((s[i].toNat : Int) - 48), .int .i64 ((i : Int) + 1), .int .i64 0]) (by simp [results, Tryz.results140, go_sem]) rfl ⟨rfl, rfl⟩
theorem one_num (w : World) (g i : Nat) (s : ByteArray) (l : List Tok) (hS : ScS w w g s i l) (hl : l.length <= 65536) (hs : s.size <= 65536) (hi : i + 1 < s.size) (h1 : 49 <= s[i]!.toNat) (h2 : s[i]!.toNat <= 57) (h3 : s[i + 1]!.toNat = 125) :
 Calls Tryz.prog 105 #[.pointer (some ⟨g, 0, none⟩)] w fun e w' => e = .returned (.int .i64 0) /\ ScS w w' g s (i + 1) (l ++ [⟨3, (s[i]!.toNat : Int) - 48, ⟨#[]⟩, i⟩]) := by
 rw [get_bang s i (by omega)] at h1 h2 ⊢
 rw [get_bang s (i + 1) hi] at h3
 obtain ⟨D, hD⟩ : ∃ D : Nat, (s[i].toNat : Int) - 48 = (D : Int) := ⟨s[i].toNat - 48, by omega⟩
 have HCR : Hid (∀ W, Calls Tryz.prog 140 #[.string s, .int .i64 i] W fun e w' => e = .returned (.tuple #[.int .i64 (D : Int), .int .i64 ((i : Int) + 1), .int .i64 0]) /\ w' = W) := fun W => hD ▸ numsRead_one s i W hs hi h1 h2 h3
 have HLY : Hid (∀ W, ScS W W g s i l -> Calls Tryz.prog 139 #[.pointer (some ⟨g, 0, none⟩), .agg #[.int .i64 3, .int .i64 (D : Int), .string ⟨#[]⟩, .int .i64 0], .int .i64 ((i : Int) + 1)] W fun e w' => e = .returned (.tuple #[]) /\ ScS W w' g s (i + 1) (l ++ [⟨3, (D : Int), ⟨#[]⟩, i⟩])) := fun W h => lay_any W g i (i + 1) D 0 s ⟨#[]⟩ 3 l h hl
 rw [hD]
 clear hD
 obtain ⟨c0, c1, hg⟩ := hS.cells
 have i0 : (0 : Int) <= (i : Int) := Int.natCast_nonneg _
 have i1 : (i : Int) < (s.size : Int) := by omega
 have i2 : i < 4398046510976 := by omega
 have e1 : (((s[i].toNat : Nat) : Int) == 34) = false := by simp; omega
 have e2 : (((s[i].toNat : Nat) : Int) == 45) = false := by simp; omega
 have q1 : ((48 : Int) <= ((s[i].toNat : Nat) : Int)) := by omega
 have q2 : (((s[i].toNat : Nat) : Int) <= 57) := by omega
 have q3 : decide ((48 : Int) <= ((s[i].toNat : Nat) : Int)) = true := decide_eq_true q1
 have q4 : decide (((s[i].toNat : Nat) : Int) <= 57) = true := decide_eq_true q2
 have q5 : 48 <= s[i].toNat := by omega
 have HSS := Lib.hid hS
 clear hs hl hS h1 h3
 go_enter Tryz.func105, Tryz.ntmps105
 go_wp2_with fail
 go_quiet (fail)
 go_upto_region 9 with fail
 go_quiet ((go_at_call 140; exact (HCR.out _).mono (fun e w' h => ⟨h.1, _, h.2⟩)))
 go_upto_region 12 with fail
 go_wp2_with (go_at_call 139; (first | (refine (HLY.out _ (HSS.out.now _)).mono ?_) | (refine (HLY.out _ ((HSS.out.now _).now _)).mono ?_)); rintro e w4 ⟨rfl, hS4⟩)
 go_ret
 exact ⟨rfl, hS4.ex, (bdn (Below.refl _ _) _).trans hS4.below⟩
end
end Go.Proofs.YtffhccmppdgmfaaGreatDoor
