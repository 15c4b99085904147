import Derived.Test.YtjhginendpjimaaGreatDoorB05
set_option linter.unusedSimpArgs false
set_option linter.unusedVariables false
set_option maxRecDepth 200000
set_option maxHeartbeats 8000000
namespace Go.Proofs.YtjhginendpjimaaGreatDoor
section
open Go Go.RowKit Go.OpenShut
theorem value_list (w : World) (g en pa deep : Nat) (t : Tok) (ts : List Tok) (l : List JV) (q : Nat) (rest : List Tok) (h : RdS w g ts en pa) (hd : deep <= 16) (hp : pa < 8192) (hk : t.kind = 1) (hs : t.s = ⟨#[91]⟩)
 (hL : ∀ W, RdS W g ts en (pa + 1) -> Calls Tryz.prog 69 #[.pointer (some ⟨g, 0, none⟩), .int .i64 deep] W (LstR W g l rest en q)) :
 Calls Tryz.prog 50 #[.pointer (some ⟨g, 0, none⟩), t.val, .int .i64 deep] w (ValR w g (.mk 5 0 ⟨#[]⟩ l []) rest en q) := by
 have hgl := h.lt
 have HLL := Lib.hid hL
 have hg0 := ((World.grownBy_alloc w t.obj none).trans (World.grownBy_alloc _ (.cells #[.int .i64 0, .int .i64 0, .string ⟨#[]⟩, .slice none 0 0, .slice none 0 0] 25) none)).trans (World.grownBy_alloc _ (.cells #[.int .i64 0, .int .i64 0, .string ⟨#[]⟩, .slice none 0 0, .slice none 0 0] 25) none)
 have hT0 : TokAt (((w.alloc t.obj).alloc (.cells #[.int .i64 0, .int .i64 0, .string ⟨#[]⟩, .slice none 0 0, .slice none 0 0] 25)).alloc (.cells #[.int .i64 0, .int .i64 0, .string ⟨#[]⟩, .slice none 0 0, .slice none 0 0] 25)) w.heap.size t := heap_alloc_lt (by simp; omega) (heap_alloc_lt (by simp) (heap_alloc_at rfl))
 have hV1 : VAt (((w.alloc t.obj).alloc (.cells #[.int .i64 0, .int .i64 0, .string ⟨#[]⟩, .slice none 0 0, .slice none 0 0] 25)).alloc (.cells #[.int .i64 0, .int .i64 0, .string ⟨#[]⟩, .slice none 0 0, .slice none 0 0] 25)) (w.heap.size + 1) RV.zero := heap_alloc_lt (by simp) (heap_alloc_at (by simp))
 have hV2 : VAt (((w.alloc t.obj).alloc (.cells #[.int .i64 0, .int .i64 0, .string ⟨#[]⟩, .slice none 0 0, .slice none 0 0] 25)).alloc (.cells #[.int .i64 0, .int .i64 0, .string ⟨#[]⟩, .slice none 0 0, .slice none 0 0] 25)) (w.heap.size + 1 + 1) RV.zero := heap_alloc_at (by simp)
 have hs0 : (((w.alloc t.obj).alloc (.cells #[.int .i64 0, .int .i64 0, .string ⟨#[]⟩, .slice none 0 0, .slice none 0 0] 25)).alloc (.cells #[.int .i64 0, .int .i64 0, .string ⟨#[]⟩, .slice none 0 0, .slice none 0 0] 25)).heap.size = w.heap.size + 3 := by simp
 have hR0 := h.kept hg0 (fun k e => by cases e)
 obtain ⟨tk, tn, tS, tp⟩ := t
 dsimp only [Tok.val, Tok.obj] at *
 subst hk
 subst hs
 have HI : Hid (∀ W, Calls Tryz.prog 68 #[.agg #[.int .i64 1, .int .i64 tn, .string ⟨#[91]⟩, .int .i64 tp], .string ⟨#[91]⟩] W fun e w' => e = .returned (.bool true) /\ Below W.heap.size W w') := fun W => is_any ⟨1, tn, ⟨#[91]⟩, tp⟩ 91 W true (by simp [isM])
 clear h hL
 have d1 : ¬ (16 < (deep : Int)) := by omega
 have d2 : ¬ (16 < deep) := by omega
 have d3 : (deep : Int) <= 16 := by omega
 go_enter Tryz.func50, Tryz.ntmps50
 go_upto_region 3 with fail
 obtain ⟨W0, hW0⟩ : ∃ W0, ((w.alloc (.cells #[.int .i64 1, .int .i64 tn, .string ⟨#[91]⟩, .int .i64 tp] 97)).alloc (.cells #[.int .i64 0, .int .i64 0, .string ⟨#[]⟩, .slice none 0 0, .slice none 0 0] 25)).alloc (.cells #[.int .i64 0, .int .i64 0, .string ⟨#[]⟩, .slice none 0 0, .slice none 0 0] 25) = W0 := ⟨_, rfl⟩
 rw [hW0] at hg0 hT0 hV1 hV2 hs0 hR0
 try rw [hW0]
 clear hW0
 have a0 := hT0.cell 0 rfl
 have a1 := hT0.cell 1 rfl
 have a2 := hT0.cell 2 rfl
 have a3 := hT0.cell 3 rfl
 have HG0 := Lib.hid hg0
 have HT0 := Lib.hid hT0
 have HV1 := Lib.hid hV1
 have HV2 := Lib.hid hV2
 have HR0 := Lib.hid hR0
 have HS0 := Lib.hid hs0
 clear hg0 hT0 hV1 hV2 hR0 hs0
 go_upto_region 14 with (go_at_call 68; refine (HI.out _).mono ?_; rintro e W1 ⟨rfl, hb1⟩)
 have HB1 := Lib.hid hb1
 clear hb1
 have HVC := Lib.hid (HV2.out.keep (HB1.out.block _ HV2.out.lt))
 have HV1C := Lib.hid (HV1.out.keep (HB1.out.block _ HV1.out.lt))
 have HRC := Lib.hid (HR0.out.kept (HB1.out.gbr none) (fun k e => by cases e))
 have HGC := Lib.hid (HG0.out.trans (HB1.out.gbr none))
 have HSC : Hid (w.heap.size + 3 <= W1.heap.size) := by have := HB1.out.size; have := HS0.out; unfold Hid; omega
 clear a0 a1 a2 a3 HV2 HV1 HR0 HG0
 have hV2 := HVC.out
 obtain ⟨v0, v1, v2, v3, v4⟩ := hV2.cells5
 have y0 := hV2.frozen 0
 have y1 := hV2.frozen 1
 have y2 := hV2.frozen 2
 have y3 := hV2.frozen 3
 have y4 := hV2.frozen 4
 dsimp only [RV.zero] at v0 v1 v2 v3 v4
 go_upto_region 17 with fail
 have hv := hV2.setK 5
 have hg := grownBy_set W1 (w.heap.size + 1 + 1) 0 (.int .i64 5)
 have hs1 := HSC.out
 have hv1 := HV1C.out.keep (hg.block _ HV1C.out.lt (by simp))
 have hr := HRC.out.kept hg (fun k e => by cases e; omega)
 have hgw := HGC.out.new_row hg (by omega)
 have hz2 : (W1.setCell ⟨w.heap.size + 1 + 1, 0, none⟩ (.int .i64 5)).heap.size = W1.heap.size := by simp
 dsimp only [RV.zero] at hv
 obtain ⟨W2, hW2⟩ : ∃ W, W1.setCell ⟨w.heap.size + 1 + 1, 0, none⟩ (.int .i64 5) = W := ⟨_, rfl⟩
 rw [hW2] at hv hv1 hr hgw hz2
 try rw [hW2]
 clear hW2 v0 v1 v2 v3 v4 y0 y1 y2 y3 y4 hV2 hg HVC HV1C HRC HGC
 obtain ⟨p0, nn0, c0, hrd, hrl⟩ := hr.ex
 have c2 := hrd.cell 2 rfl
 have z2 := hrd.frozen 2
 have hgx := grownBy_set W2 g 2 (.int .i64 ((pa : Int) + 1))
 have hR3 : RdS (W2.setCell ⟨g, 2, none⟩ (.int .i64 ((pa : Int) + 1))) g ts en (pa + 1) := ⟨p0, nn0, c0, hrd.set2' _ _ (by omega), hrl.below (below_of hgx (by have := hrd.lt; omega) (fun k e => by cases e; exact Nat.le_refl _)) (Nat.le_refl _)⟩
 have hV3 := hv1.keep (hgx.block _ hv1.lt (by simp; omega))
 have hV4 := hv.keep (hgx.block _ hv.lt (by simp; omega))
 have hG3 := hgw.keep_some hgx
 have hz3 : w.heap.size + 3 <= (W2.setCell ⟨g, 2, none⟩ (.int .i64 ((pa : Int) + 1))).heap.size := by simp; omega
 go_upto_region 20 with fail
 have c3 := hR3.cell2
 obtain ⟨W3, hW3⟩ : ∃ W, W2.setCell ⟨g, 2, none⟩ (.int .i64 ((pa : Int) + 1)) = W := ⟨_, rfl⟩
 rw [hW3] at hR3 hV3 hV4 hG3 c3 hz3
 try rw [hW3]
 clear hW3 c2 z2 hgx hrd hrl hv hv1 hr hgw hz2
 obtain ⟨v0, v1, v2, v3, v4⟩ := hV4.cells5
 have HR3 := Lib.hid hR3
 have HV3 := Lib.hid hV3
 have HV4 := Lib.hid hV4
 have HG3 := Lib.hid hG3
 have HZ3 := Lib.hid hz3
 clear hR3 hV3 hV4 hG3 hz3
 go_upto_region 27 with (go_at_call 69; refine (HLL.out _ HR3.out).mono ?_; rintro e w5 ⟨p5, n5, c5, rfl, hgr5, hr5, hg5⟩; (have hV5 := HV4.out.keep (hg5.block (w.heap.size + 1 + 1) HV4.out.lt (by simp; omega))); (obtain ⟨u0, u1, u2, u3, u4⟩ := hV5.cells5); (have y0 := hV5.frozen 0); (have y1 := hV5.frozen 1); (have y2 := hV5.frozen 2); (have y3 := hV5.frozen 3); (have y4 := hV5.frozen 4))
 have hv6 := hV5.setLs p5 n5 c5
 have hg6 := grownBy_set w5 (w.heap.size + 1 + 1) 3 (.slice p5 n5 c5)
 have hv7 := (HV3.out.keep (hg5.block _ HV3.out.lt (by simp; omega))).keep (hg6.block (w.heap.size + 1) (Nat.lt_of_lt_of_le HV3.out.lt hg5.size) (by simp))
 have hr6 := hr5.kept hg6 (fun k e => by cases e; omega)
 have hgw6 := (HG3.out.trans hg5).new_row hg6 (by omega)
 have ht5 := hgr5.whole
 have ht6 := ht5.same (w' := w5.setCell ⟨w.heap.size + 1 + 1, 3, none⟩ (.slice p5 n5 c5)) (fun k hk => hg6.block k hk.2 (fun e => by have := hk.1; have := HZ3.out; cases e; omega))
 have hz6 : (w5.setCell ⟨w.heap.size + 1 + 1, 3, none⟩ (.slice p5 n5 c5)).heap.size = w5.heap.size := by simp
 obtain ⟨W6, hW6⟩ : ∃ W, w5.setCell ⟨w.heap.size + 1 + 1, 3, none⟩ (.slice p5 n5 c5) = W := ⟨_, rfl⟩
 rw [hW6] at hv6 hv7 hr6 hgw6 ht6 hz6
 try rw [hW6]
 dsimp only at hv6
 clear hW6 v0 v1 v2 v3 v4 u0 u1 u2 u3 u4 y0 y1 y2 y3 y4 c3 hg6 hV5 ht5
 obtain ⟨v0, v1, v2, v3, v4⟩ := hv6.cells5
 obtain ⟨z0, z1, z2, z3, z4⟩ := hv7.cells5
 have y0 := hv7.frozen 0
 have y1 := hv7.frozen 1
 have y2 := hv7.frozen 2
 have y3 := hv7.frozen 3
 have y4 := hv7.frozen 4
 dsimp only [RV.zero] at v0 v1 v2 v3 v4 z0 z1 z2 z3 z4
 have HR6 := Lib.hid hr6
 have HG6 := Lib.hid hgw6
 have HT6 := Lib.hid ht6
 have HZ6 := Lib.hid hz6
 have HGX := Lib.hid hg5.size
 clear hr6 hgw6 ht6 hv6 hv7 hgr5 hr5 hg5 hz6
 go_wp2_with fail
 have hg7 := grownBy_set5 W6 (w.heap.size + 1) (⟨5, 0, ⟨#[]⟩, p5, n5, c5, none, 0, 0⟩ : RV)
 have hz7 := hg7.size
 refine bodyPost_ret (v := RV.val ⟨5, 0, ⟨#[]⟩, p5, n5, c5, none, 0, 0⟩) (by simp [results, Tryz.results50, go_sem, z0, z1, z2, z3, z4]) rfl ⟨⟨5, 0, ⟨#[]⟩, p5, n5, c5, none, 0, 0⟩, rfl, ?_, HR6.out.kept hg7 (fun k e => by cases e; omega), HG6.out.new_row hg7 (by omega)⟩
 refine (HT6.out.same (fun k hk => hg7.block k (by have := HZ6.out; omega) (fun e => by have := hk.1; have := HZ3.out; cases e; omega))).mono (fun k hk => ⟨by have := hk.1; have := HZ3.out; omega, ?_⟩)
 exact Nat.lt_of_lt_of_le (show k < W6.heap.size by have := hk.2; have := HZ6.out; omega) hz7
theorem value_map (w : World) (g en pa deep : Nat) (t : Tok) (ts : List Tok) (l : List (ByteArray × JV)) (q : Nat) (rest : List Tok) (h : RdS w g ts en pa) (hd : deep <= 16) (hp : pa < 8192) (hk : t.kind = 1) (hs : t.s = ⟨#[123]⟩)
 (hL : ∀ W, RdS W g ts en (pa + 1) -> Calls Tryz.prog 70 #[.pointer (some ⟨g, 0, none⟩), .int .i64 deep] W (MemR W g l rest en q)) :
 Calls Tryz.prog 50 #[.pointer (some ⟨g, 0, none⟩), t.val, .int .i64 deep] w (ValR w g (.mk 6 0 ⟨#[]⟩ [] l) rest en q) := by
 have hgl := h.lt
 have HLL := Lib.hid hL
 have hg0 := ((World.grownBy_alloc w t.obj none).trans (World.grownBy_alloc _ (.cells #[.int .i64 0, .int .i64 0, .string ⟨#[]⟩, .slice none 0 0, .slice none 0 0] 25) none)).trans (World.grownBy_alloc _ (.cells #[.int .i64 0, .int .i64 0, .string ⟨#[]⟩, .slice none 0 0, .slice none 0 0] 25) none)
 have hT0 : TokAt (((w.alloc t.obj).alloc (.cells #[.int .i64 0, .int .i64 0, .string ⟨#[]⟩, .slice none 0 0, .slice none 0 0] 25)).alloc (.cells #[.int .i64 0, .int .i64 0, .string ⟨#[]⟩, .slice none 0 0, .slice none 0 0] 25)) w.heap.size t := heap_alloc_lt (by simp; omega) (heap_alloc_lt (by simp) (heap_alloc_at rfl))
 have hV1 : VAt (((w.alloc t.obj).alloc (.cells #[.int .i64 0, .int .i64 0, .string ⟨#[]⟩, .slice none 0 0, .slice none 0 0] 25)).alloc (.cells #[.int .i64 0, .int .i64 0, .string ⟨#[]⟩, .slice none 0 0, .slice none 0 0] 25)) (w.heap.size + 1) RV.zero := heap_alloc_lt (by simp) (heap_alloc_at (by simp))
 have hV2 : VAt (((w.alloc t.obj).alloc (.cells #[.int .i64 0, .int .i64 0, .string ⟨#[]⟩, .slice none 0 0, .slice none 0 0] 25)).alloc (.cells #[.int .i64 0, .int .i64 0, .string ⟨#[]⟩, .slice none 0 0, .slice none 0 0] 25)) (w.heap.size + 1 + 1) RV.zero := heap_alloc_at (by simp)
 have hs0 : (((w.alloc t.obj).alloc (.cells #[.int .i64 0, .int .i64 0, .string ⟨#[]⟩, .slice none 0 0, .slice none 0 0] 25)).alloc (.cells #[.int .i64 0, .int .i64 0, .string ⟨#[]⟩, .slice none 0 0, .slice none 0 0] 25)).heap.size = w.heap.size + 3 := by simp
 have hR0 := h.kept hg0 (fun k e => by cases e)
 obtain ⟨tk, tn, tS, tp⟩ := t
 dsimp only [Tok.val, Tok.obj] at *
 subst hk
 subst hs
 have HI : Hid (∀ W, Calls Tryz.prog 68 #[.agg #[.int .i64 1, .int .i64 tn, .string ⟨#[123]⟩, .int .i64 tp], .string ⟨#[91]⟩] W fun e w' => e = .returned (.bool false) /\ Below W.heap.size W w') := fun W => is_any ⟨1, tn, ⟨#[123]⟩, tp⟩ 91 W false (by simp [isM])
 have HJ : Hid (∀ W, Calls Tryz.prog 68 #[.agg #[.int .i64 1, .int .i64 tn, .string ⟨#[123]⟩, .int .i64 tp], .string ⟨#[123]⟩] W fun e w' => e = .returned (.bool true) /\ Below W.heap.size W w') := fun W => is_any ⟨1, tn, ⟨#[123]⟩, tp⟩ 123 W true (by simp [isM])
 clear h hL
 have d1 : ¬ (16 < (deep : Int)) := by omega
 have d2 : ¬ (16 < deep) := by omega
 have d3 : (deep : Int) <= 16 := by omega
 go_enter Tryz.func50, Tryz.ntmps50
 go_upto_region 3 with fail
 obtain ⟨W0, hW0⟩ : ∃ W0, ((w.alloc (.cells #[.int .i64 1, .int .i64 tn, .string ⟨#[123]⟩, .int .i64 tp] 97)).alloc (.cells #[.int .i64 0, .int .i64 0, .string ⟨#[]⟩, .slice none 0 0, .slice none 0 0] 25)).alloc (.cells #[.int .i64 0, .int .i64 0, .string ⟨#[]⟩, .slice none 0 0, .slice none 0 0] 25) = W0 := ⟨_, rfl⟩
 rw [hW0] at hg0 hT0 hV1 hV2 hs0 hR0
 try rw [hW0]
 clear hW0
 have a0 := hT0.cell 0 rfl
 have a1 := hT0.cell 1 rfl
 have a2 := hT0.cell 2 rfl
 have a3 := hT0.cell 3 rfl
 have HG0 := Lib.hid hg0
 have HT0 := Lib.hid hT0
 have HV1 := Lib.hid hV1
 have HV2 := Lib.hid hV2
 have HR0 := Lib.hid hR0
 have HS0 := Lib.hid hs0
 clear hg0 hT0 hV1 hV2 hR0 hs0
 go_upto_region 15 with (go_at_call 68; refine (HI.out _).mono ?_; rintro e Wa ⟨rfl, hb1⟩)
 have hTa := HT0.out.keep (hb1.block _ HT0.out.lt)
 clear a0 a1 a2 a3
 have a0 := hTa.cell 0 rfl
 have a1 := hTa.cell 1 rfl
 have a2 := hTa.cell 2 rfl
 have a3 := hTa.cell 3 rfl
 have HB0 := Lib.hid hb1
 clear hb1 hTa
 go_upto_region 16 with (go_at_call 68; refine (HJ.out _).mono ?_; rintro e W1 ⟨rfl, hb1⟩)
 have HB1 : Hid (Below W0.heap.size W0 W1) := HB0.out.trans (hb1.mono HB0.out.size)
 clear hb1 HB0
 have HVC := Lib.hid (HV2.out.keep (HB1.out.block _ HV2.out.lt))
 have HV1C := Lib.hid (HV1.out.keep (HB1.out.block _ HV1.out.lt))
 have HRC := Lib.hid (HR0.out.kept (HB1.out.gbr none) (fun k e => by cases e))
 have HGC := Lib.hid (HG0.out.trans (HB1.out.gbr none))
 have HSC : Hid (w.heap.size + 3 <= W1.heap.size) := by have := HB1.out.size; have := HS0.out; unfold Hid; omega
 clear a0 a1 a2 a3 HV2 HV1 HR0 HG0
 have hV2 := HVC.out
 obtain ⟨v0, v1, v2, v3, v4⟩ := hV2.cells5
 have y0 := hV2.frozen 0
 have y1 := hV2.frozen 1
 have y2 := hV2.frozen 2
 have y3 := hV2.frozen 3
 have y4 := hV2.frozen 4
 dsimp only [RV.zero] at v0 v1 v2 v3 v4
 go_upto_region 17 with fail
 have hv := hV2.setK 6
 have hg := grownBy_set W1 (w.heap.size + 1 + 1) 0 (.int .i64 6)
 have hs1 := HSC.out
 have hv1 := HV1C.out.keep (hg.block _ HV1C.out.lt (by simp))
 have hr := HRC.out.kept hg (fun k e => by cases e; omega)
 have hgw := HGC.out.new_row hg (by omega)
 have hz2 : (W1.setCell ⟨w.heap.size + 1 + 1, 0, none⟩ (.int .i64 6)).heap.size = W1.heap.size := by simp
 dsimp only [RV.zero] at hv
 obtain ⟨W2, hW2⟩ : ∃ W, W1.setCell ⟨w.heap.size + 1 + 1, 0, none⟩ (.int .i64 6) = W := ⟨_, rfl⟩
 rw [hW2] at hv hv1 hr hgw hz2
 try rw [hW2]
 clear hW2 v0 v1 v2 v3 v4 y0 y1 y2 y3 y4 hV2 hg HVC HV1C HRC HGC
 obtain ⟨p0, nn0, c0, hrd, hrl⟩ := hr.ex
 have c2 := hrd.cell 2 rfl
 have z2 := hrd.frozen 2
 have hgx := grownBy_set W2 g 2 (.int .i64 ((pa : Int) + 1))
 have hR3 : RdS (W2.setCell ⟨g, 2, none⟩ (.int .i64 ((pa : Int) + 1))) g ts en (pa + 1) := ⟨p0, nn0, c0, hrd.set2' _ _ (by omega), hrl.below (below_of hgx (by have := hrd.lt; omega) (fun k e => by cases e; exact Nat.le_refl _)) (Nat.le_refl _)⟩
 have hV3 := hv1.keep (hgx.block _ hv1.lt (by simp; omega))
 have hV4 := hv.keep (hgx.block _ hv.lt (by simp; omega))
 have hG3 := hgw.keep_some hgx
 have hz3 : w.heap.size + 3 <= (W2.setCell ⟨g, 2, none⟩ (.int .i64 ((pa : Int) + 1))).heap.size := by simp; omega
 go_upto_region 20 with fail
 have c3 := hR3.cell2
 obtain ⟨W3, hW3⟩ : ∃ W, W2.setCell ⟨g, 2, none⟩ (.int .i64 ((pa : Int) + 1)) = W := ⟨_, rfl⟩
 rw [hW3] at hR3 hV3 hV4 hG3 c3 hz3
 try rw [hW3]
 clear hW3 c2 z2 hgx hrd hrl hv hv1 hr hgw hz2
 obtain ⟨v0, v1, v2, v3, v4⟩ := hV4.cells5
 have HR3 := Lib.hid hR3
 have HV3 := Lib.hid hV3
 have HV4 := Lib.hid hV4
 have HG3 := Lib.hid hG3
 have HZ3 := Lib.hid hz3
 clear hR3 hV3 hV4 hG3 hz3
 go_upto_region 27 with (go_at_call 70; refine (HLL.out _ HR3.out).mono ?_; rintro e w5 ⟨p5, n5, c5, rfl, hgr5, hr5, hg5⟩; (have hV5 := HV4.out.keep (hg5.block (w.heap.size + 1 + 1) HV4.out.lt (by simp; omega))); (obtain ⟨u0, u1, u2, u3, u4⟩ := hV5.cells5); (have y0 := hV5.frozen 0); (have y1 := hV5.frozen 1); (have y2 := hV5.frozen 2); (have y3 := hV5.frozen 3); (have y4 := hV5.frozen 4))
 have hv6 := hV5.setMs p5 n5 c5
 have hg6 := grownBy_set w5 (w.heap.size + 1 + 1) 4 (.slice p5 n5 c5)
 have hv7 := (HV3.out.keep (hg5.block _ HV3.out.lt (by simp; omega))).keep (hg6.block (w.heap.size + 1) (Nat.lt_of_lt_of_le HV3.out.lt hg5.size) (by simp))
 have hr6 := hr5.kept hg6 (fun k e => by cases e; omega)
 have hgw6 := (HG3.out.trans hg5).new_row hg6 (by omega)
 have ht5 := hgr5.whole
 have ht6 := ht5.same (w' := w5.setCell ⟨w.heap.size + 1 + 1, 4, none⟩ (.slice p5 n5 c5)) (fun k hk => hg6.block k hk.2 (fun e => by have := hk.1; have := HZ3.out; cases e; omega))
 have hz6 : (w5.setCell ⟨w.heap.size + 1 + 1, 4, none⟩ (.slice p5 n5 c5)).heap.size = w5.heap.size := by simp
 obtain ⟨W6, hW6⟩ : ∃ W, w5.setCell ⟨w.heap.size + 1 + 1, 4, none⟩ (.slice p5 n5 c5) = W := ⟨_, rfl⟩
 rw [hW6] at hv6 hv7 hr6 hgw6 ht6 hz6
 try rw [hW6]
 dsimp only at hv6
 clear hW6 v0 v1 v2 v3 v4 u0 u1 u2 u3 u4 y0 y1 y2 y3 y4 c3 hg6 hV5 ht5
 obtain ⟨v0, v1, v2, v3, v4⟩ := hv6.cells5
 obtain ⟨z0, z1, z2, z3, z4⟩ := hv7.cells5
 have y0 := hv7.frozen 0
 have y1 := hv7.frozen 1
 have y2 := hv7.frozen 2
 have y3 := hv7.frozen 3
 have y4 := hv7.frozen 4
 dsimp only [RV.zero] at v0 v1 v2 v3 v4 z0 z1 z2 z3 z4
 have HR6 := Lib.hid hr6
 have HG6 := Lib.hid hgw6
 have HT6 := Lib.hid ht6
 have HZ6 := Lib.hid hz6
 have HGX := Lib.hid hg5.size
 clear hr6 hgw6 ht6 hv6 hv7 hgr5 hr5 hg5 hz6
 go_wp2_with fail
 have hg7 := grownBy_set5 W6 (w.heap.size + 1) (⟨6, 0, ⟨#[]⟩, none, 0, 0, p5, n5, c5⟩ : RV)
 have hz7 := hg7.size
 refine bodyPost_ret (v := RV.val ⟨6, 0, ⟨#[]⟩, none, 0, 0, p5, n5, c5⟩) (by simp [results, Tryz.results50, go_sem, z0, z1, z2, z3, z4]) rfl ⟨⟨6, 0, ⟨#[]⟩, none, 0, 0, p5, n5, c5⟩, rfl, ?_, HR6.out.kept hg7 (fun k e => by cases e; omega), HG6.out.new_row hg7 (by omega)⟩
 refine (HT6.out.same (fun k hk => hg7.block k (by have := HZ6.out; omega) (fun e => by have := hk.1; have := HZ3.out; cases e; omega))).mono (fun k hk => ⟨by have := hk.1; have := HZ3.out; omega, ?_⟩)
 exact Nat.lt_of_lt_of_le (show k < W6.heap.size by have := hk.2; have := HZ6.out; omega) hz7
theorem isM_mark {t : Tok} {c : UInt8} (h : isM t c = true) : t.kind = 1 /\ t.s = ⟨#[c]⟩ := by
 unfold isM at h
 rw [Bool.and_eq_true, decide_eq_true_eq, decide_eq_true_eq] at h
 exact h
theorem value_all : ∀ N, PV N
 | 0 => fun f hf d p t ts v q r h => by
   obtain rfl : f = 0 := by omega
   simp [parV] at h
 | N + 1 => by
   have ih := value_all N
   intro f hf d p t ts v q r h w g en hr
   cases f with
   | zero => simp [parV] at h
   | succ f =>
     have hb := (par_bd (f + 1)).1 _ _ _ _ _ _ h
     unfold parV at h
     split at h
     ·cases h
     ·rename_i hc
      have hp : p < 8192 := by omega
      have leaf : ∀ v', leafOf t = some v' -> Calls Tryz.prog 50 #[.pointer (some ⟨g, 0, none⟩), t.val, .int .i64 d] w (ValR w g v' ts en (p + 1)) := fun v' hv => value_leaf w g en p d t ts v' hr hb.2.2 hp hv
      split at h
      ·rename_i h4
       cases h
       exact leaf _ (by unfold leafOf; rw [if_pos h4])
      ·rename_i h4
       split at h
       ·rename_i h2
        split at h
        ·rename_i h5; cases h; exact leaf _ (by unfold leafOf; rw [if_neg h4, if_pos h2, if_pos h5])
        ·rename_i h5
         split at h
         ·rename_i h6; cases h; exact leaf _ (by unfold leafOf; rw [if_neg h4, if_pos h2, if_neg h5, if_pos h6])
         ·rename_i h6; cases h; exact leaf _ (by unfold leafOf; rw [if_neg h4, if_pos h2, if_neg h5, if_neg h6])
       ·split at h
        ·rename_i h2 h91
         have hm := isM_mark h91
         cases ts with
         | nil => cases h
         | cons c r' =>
           dsimp only at h
           split at h
           ·rename_i h93
            cases h
            exact value_list w g en p d t (c :: _) [] _ _ hr hb.2.2 hp hm.1 hm.2 (fun W hW => list_none W g en (p + 1) d c _ hW h93)
           ·rename_i h93
            obtain ⟨x, hx, he⟩ := Option.map_eq_some_iff.1 h
            cases he
            exact value_list w g en p d t (c :: r') x.1 _ _ hr hb.2.2 hp hm.1 hm.2 (fun W hW => list_some N ih W g en (p + 1) d f c r' x.1 _ _ hW hb.2.2 (by simpa using h93) (by omega) hx)
        ·split at h
         ·rename_i h2 h91 h123
          have hm := isM_mark h123
          cases ts with
          | nil => cases h
          | cons c r' =>
            dsimp only at h
            split at h
            ·rename_i h93
             cases h
             exact value_map w g en p d t (c :: _) [] _ _ hr hb.2.2 hp hm.1 hm.2 (fun W hW => (members_none W g en (p + 1) d c _ hW h93).mono (fun e w' hh => ⟨none, 0, 0, hh.1, GrM.nil _ _, hh.2.1, hh.2.2⟩))
            ·rename_i h93
             obtain ⟨x, hx, he⟩ := Option.map_eq_some_iff.1 h
             cases he
             exact value_map w g en p d t (c :: r') x.1 _ _ hr hb.2.2 hp hm.1 hm.2 (fun W hW => members_some N ih W g en (p + 1) d f c r' x.1 _ _ hW hb.2.2 (by simpa using h93) (by omega) hx)
         ·cases h
end
end Go.Proofs.YtjhginendpjimaaGreatDoor
