import Derived.Test.YthgkgjcnmahacaaSk13
/- store.Put, walked. -/
set_option linter.unusedSimpArgs false
set_option linter.unusedVariables false
namespace Go.Proofs.Ythgkgjcnmahacaa
open Go.RowKit Go.OpenShut

theorem isAt_some {os : List (ByteArray × JV)} {id : ByteArray} (h : isAt os id = true) : ∃ p, os[lowN os id]? = some p ∧ p.1 = id ∧ oldV os id = p.2 := by
  unfold isAt at h
  unfold oldV
  cases e : os[lowN os id]? with
  | none => rw [e] at h; cases h
  | some p => rw [e] at h; exact ⟨p, rfl, by simpa using h, rfl⟩
theorem lowN_le (os : List (ByteArray × JV)) (id : ByteArray) : lowN os id ≤ os.length := (List.takeWhile_sublist _).length_le

set_option maxRecDepth 200000 in
set_option maxHeartbeats 8000000 in
theorem put_any (b : BoxD) (r : RB) (id : ByteArray) (v : JV) (vr : RV) (w : World) (hb : BoxOf w w.heap.size b r) (hr : Rising b.objs) (ob : b.Ok) (hv : TreeOf w w.heap.size v vr) (ov : v.Ok) (hid : id.size ≤ 140737488351232) :
    Calls Try.prog 22 #[r.val, .string id, vr.val] w (BoxErr w (putB b id v)) := by
  have hS := PutS.start w r id vr
  have HV := Lib.hid hv
  have HOV := Lib.hid ov
  have HBX := Lib.hid hb
  have HR := Lib.hid hr
  have HOB := Lib.hid ob
  have HID := Lib.hid hid
  have HSQ : Hid (b.seq = r.sq ∧ b.objs.length = r.no) := ⟨hb.seq, hb.objs.nlen⟩
  have hlo := lowN_le b.objs id
  clear hv ov hb hr ob hid
  go_enter Try.func22, Try.ntmps22
  go_upto_region 1 with fail
  obtain ⟨W0, hW0⟩ : ∃ W0, ((((w.alloc (.cells #[.slice r.po r.no r.co, .slice r.pt r.nt r.ct, .int .i64 r.sq, .int .i64 r.fl, .int .i64 r.kp] 35)).alloc (.cells #[.string id] 9)).alloc (.cells #[.int .i64 vr.k, .int .i64 vr.n, .string vr.s, .slice vr.pl vr.nl vr.cl, .slice vr.pm vr.nm vr.cm] 25)).alloc (.cells #[.slice none 0 0, .slice none 0 0, .int .i64 0, .int .i64 0, .int .i64 0] 35)) = W0 := ⟨_, rfl⟩
  rw [hW0] at hS ⊢
  clear hW0
  have HS := Lib.hid hS
  have hz0 := hS.sizes
  have c0 := hS.box.cell 0 rfl
  have c1 := hS.box.cell 1 rfl
  have c2 := hS.box.cell 2 rfl
  have c3 := hS.box.cell 3 rfl
  have c4 := hS.box.cell 4 rfl
  have s0 := hS.scell
  have HPL := Lib.hid (placeO_any b r id W0 (HBX.out.under hS.below hS.below.size) HR.out HOB.out)
  clear hS
  go_upto_region 2 with (go_at_call 59; refine HPL.out.mono ?_; rintro e w1 ⟨rfl, hb1⟩)
  have HS1 := Lib.hid (HS.out.go hb1)
  clear HPL HS hb1 c0 c1 c2 c3 c4 s0 hz0
  have hz1 := HS1.out.sizes
  have hzz := HS1.out.size
  have hBX1 := HBX.out.under HS1.out.below HS1.out.below.size
  have c0 := HS1.out.box.cell 0 rfl
  have c1 := HS1.out.box.cell 1 rfl
  have c2 := HS1.out.box.cell 2 rfl
  have c3 := HS1.out.box.cell 3 rfl
  have c4 := HS1.out.box.cell 4 rfl
  have s0 := HS1.out.scell
  have e0 := HS1.out.val.cell 0 rfl
  have e1 := HS1.out.val.cell 1 rfl
  have e2 := HS1.out.val.cell 2 rfl
  have e3 := HS1.out.val.cell 3 rfl
  have e4 := HS1.out.val.cell 4 rfl
  have z0 := HS1.out.zero.cell 0 rfl
  have z1 := HS1.out.zero.cell 1 rfl
  have z2 := HS1.out.zero.cell 2 rfl
  have z3 := HS1.out.zero.cell 3 rfl
  have z4 := HS1.out.zero.cell 4 rfl
  have y0 := HS1.out.zero.frozen 0
  have y1 := HS1.out.zero.frozen 1
  have y2 := HS1.out.zero.frozen 2
  have y3 := HS1.out.zero.frozen 3
  have y4 := HS1.out.zero.frozen 4
  dsimp only [RB.zero] at z0 z1 z2 z3 z4
  cases hat : isAt b.objs id with
  | false =>
    go_quiet (fail)
    have HS2 := Lib.hid (HS1.out.go (W' := w1.drewN nq) (bdn (Below.refl _ _) nq))
    have hbx := HBX.out.under HS2.out.below (Nat.le_refl _)
    obtain ⟨W2, hW2⟩ : ∃ W2, w1.drewN nq = W2 := ⟨_, rfl⟩
    rw [hW2] at HS2 hbx ⊢
    have hz2 := HS2.out.sizes
    have hzz2 := HS2.out.size
    clear hW2 c0 c1 c2 c3 c4 s0 e0 e1 e2 e3 e4 hz1 hzz hBX1 HS1 z0 y0 z1 y1 z2 y2 z3 y3 z4 y4
    have c0 := HS2.out.box.cell 0 rfl
    have c1 := HS2.out.box.cell 1 rfl
    have c2 := HS2.out.box.cell 2 rfl
    have c3 := HS2.out.box.cell 3 rfl
    have c4 := HS2.out.box.cell 4 rfl
    have s0 := HS2.out.scell
    have e0 := HS2.out.val.cell 0 rfl
    have e1 := HS2.out.val.cell 1 rfl
    have e2 := HS2.out.val.cell 2 rfl
    have e3 := HS2.out.val.cell 3 rfl
    have e4 := HS2.out.val.cell 4 rfl
    have z0 := HS2.out.zero.cell 0 rfl
    have z1 := HS2.out.zero.cell 1 rfl
    have z2 := HS2.out.zero.cell 2 rfl
    have z3 := HS2.out.zero.cell 3 rfl
    have z4 := HS2.out.zero.cell 4 rfl
    have y0 := HS2.out.zero.frozen 0
    have y1 := HS2.out.zero.frozen 1
    have y2 := HS2.out.zero.frozen 2
    have y3 := HS2.out.zero.frozen 3
    have y4 := HS2.out.zero.frozen 4
    dsimp only [RB.zero] at z0 z1 z2 z3 z4
    have hC := containsE_any W2 r.pt r.nt r.ct b.trail ((rdE_iff.1 (hbx.under (Below.refl _ _) HS2.out.below.size).trail).2) (w.heap.size + 1) id s0 HOB.out.trail
    have HAT := Lib.hid hat
    have HBX2 := Lib.hid hbx
    clear hat hbx
    cases htd : toldB b.trail id with
    | true =>
      rw [htd] at hC
      have HX : Hid (putB b id v = (BoxD.zero, 181)) := by unfold Hid putB; rw [if_neg (by rw [HAT.out]; decide), if_pos htd]
      have HC := Lib.hid hC
      clear hC htd
      go_wp2_with (go_at_call 64; refine HC.out.mono ?_; rintro e w3 ⟨rfl, hb3⟩; (have HS3 := Lib.hid (HS2.out.go hb3)); clear z0 z1 z2 z3 z4 y0 y1 y2 y3 y4; (have z0 := HS3.out.zero.cell 0 rfl); (have z1 := HS3.out.zero.cell 1 rfl); (have z2 := HS3.out.zero.cell 2 rfl); (have z3 := HS3.out.zero.cell 3 rfl); (have z4 := HS3.out.zero.cell 4 rfl); (have y0 := HS3.out.zero.frozen 0); (have y1 := HS3.out.zero.frozen 1); (have y2 := HS3.out.zero.frozen 2); (have y3 := HS3.out.zero.frozen 3); (have y4 := HS3.out.zero.frozen 4); dsimp only [RB.zero] at z0 z1 z2 z3 z4)
      have hz3 := HS3.out.sizes
      refine bodyPost_ret (v := .tuple #[RB.val RB.zero, .int .i64 181]) (by simp [results, Try.results22, go_sem, RB.zero, z0, z1, z2, z3, z4]) rfl ?_
      exact ⟨RB.zero, by rw [HX.out], by rw [HX.out]; exact NewBox.zero _ _ _, HS3.out.below.grown (grownBy_setB _ _ RB.zero) HS3.out.below.size (fun a e => by cases e; omega)⟩
    | false =>
      rw [htd] at hC
      have HC := Lib.hid hC
      have HTD := Lib.hid htd
      clear hC htd
      by_cases hfull : 9007199254740991 ≤ b.seq
      · have HX : Hid (putB b id v = (BoxD.zero, 180)) := by unfold Hid putB; rw [if_neg (by rw [HAT.out]; decide), if_neg (by rw [HTD.out]; decide), if_pos hfull]
        have hq : decide ((9007199254740991 : Int) ≤ r.sq) = true := by have := HSQ.out.1; simp; omega
        clear hfull
        go_wp2_with (go_at_call 64; refine HC.out.mono ?_; rintro e w3 ⟨rfl, hb3⟩; (have HS3 := Lib.hid (HS2.out.go hb3)); (have c2' := HS3.out.box.cell 2 rfl); clear z0 z1 z2 z3 z4 y0 y1 y2 y3 y4; (have z0 := HS3.out.zero.cell 0 rfl); (have z1 := HS3.out.zero.cell 1 rfl); (have z2 := HS3.out.zero.cell 2 rfl); (have z3 := HS3.out.zero.cell 3 rfl); (have z4 := HS3.out.zero.cell 4 rfl); (have y0 := HS3.out.zero.frozen 0); (have y1 := HS3.out.zero.frozen 1); (have y2 := HS3.out.zero.frozen 2); (have y3 := HS3.out.zero.frozen 3); (have y4 := HS3.out.zero.frozen 4); dsimp only [RB.zero] at z0 z1 z2 z3 z4)
        have hz3 := HS3.out.sizes
        refine bodyPost_ret (v := .tuple #[RB.val RB.zero, .int .i64 180]) (by simp [results, Try.results22, go_sem, RB.zero, z0, z1, z2, z3, z4]) rfl ?_
        exact ⟨RB.zero, by rw [HX.out], by rw [HX.out]; exact NewBox.zero _ _ _, HS3.out.below.grown (grownBy_setB _ _ RB.zero) HS3.out.below.size (fun a e => by cases e; omega)⟩
      · have HX : Hid (putB b id v = (chgB b (b.objs.take (lowN b.objs id) ++ (id, v) :: b.objs.drop (lowN b.objs id)) id 1, 0)) := by unfold Hid putB; rw [if_neg (by rw [HAT.out]; decide), if_neg (by rw [HTD.out]; decide), if_neg hfull]
        have hq : decide ((9007199254740991 : Int) ≤ r.sq) = false := by have := HSQ.out.1; simp; omega
        have HFU := Lib.hid hfull
        clear hfull
        go_upto_region 8 with (go_at_call 64; refine HC.out.mono ?_; rintro e w3 ⟨rfl, hb3⟩; (have HS3 := Lib.hid (HS2.out.go hb3)); (have c2' := HS3.out.box.cell 2 rfl))
        clear c0 c1 c2 c3 c4 c2' s0 e0 e1 e2 e3 e4 z0 y0 z1 y1 z2 y2 z3 y3 z4 y4
        have c0 := HS3.out.box.cell 0 rfl
        have c1 := HS3.out.box.cell 1 rfl
        have c2 := HS3.out.box.cell 2 rfl
        have c3 := HS3.out.box.cell 3 rfl
        have c4 := HS3.out.box.cell 4 rfl
        go_upto_region 9 with (go_at_call 63; refine (own_any b r _ w.heap.size HS3.out.below.size (HBX.out.under HS3.out.below (Nat.le_refl _)) HOB.out).mono ?_; rintro e w4 ⟨q1, rfl, hN1, hb4⟩; (have HS4 := Lib.hid (HS3.out.go hb4)); clear c0 c1 c2 c3 c4; (have c0 := HS4.out.box.cell 0 rfl); (have c1 := HS4.out.box.cell 1 rfl); (have c2 := HS4.out.box.cell 2 rfl); (have c3 := HS4.out.box.cell 3 rfl); (have c4 := HS4.out.box.cell 4 rfl); (have x0 := HS4.out.box.frozen 0); (have x1 := HS4.out.box.frozen 1); (have x2 := HS4.out.box.frozen 2); (have x3 := HS4.out.box.frozen 3); (have x4 := HS4.out.box.frozen 4))
        have hz3 := HS3.out.size
        have hg5 := grownBy_setB w4 w.heap.size q1
        have HS5 := Lib.hid (HS4.out.setBox q1 (HS4.out.box.stored q1) hg5)
        have hne5 := hN1.ne (g := w.heap.size) (by omega)
        have hN5 := hN1.kept hg5 hne5.1 hne5.2 HS4.out.below.size (Nat.le_refl _)
        obtain ⟨W5, hW5⟩ : ∃ W5, (((((w4.setCell ⟨w.heap.size, 0, none⟩ (.slice q1.po q1.no q1.co)).setCell ⟨w.heap.size, 1, none⟩ (.slice q1.pt q1.nt q1.ct)).setCell ⟨w.heap.size, 2, none⟩ (.int .i64 q1.sq)).setCell ⟨w.heap.size, 3, none⟩ (.int .i64 q1.fl)).setCell ⟨w.heap.size, 4, none⟩ (.int .i64 q1.kp)) = W5 := ⟨_, rfl⟩
        have hz5 : w4.heap.size = W5.heap.size := by rw [← hW5]; simp
        rw [hW5] at HS5 hN5 ⊢
        have hzb := hb4.size
        clear hW5 hg5 hne5 hN1 hb4 HS4 c0 c1 c2 c3 c4 x0 x1 x2 x3 x4
        obtain ⟨bs, hbs⟩ : ∃ n, w3.heap.size = n := ⟨_, rfl⟩
        rw [hbs] at hN5 hz3 hzb
        obtain ⟨ros, hro, hms⟩ := hN5.objs
        have hn1 := hms.len
        have hn2 := rd_nlen (hro.rd codecM)
        have c0 := HS5.out.box.cell 0 rfl
        have c1 := HS5.out.box.cell 1 rfl
        have c2 := HS5.out.box.cell 2 rfl
        have c3 := HS5.out.box.cell 3 rfl
        have c4 := HS5.out.box.cell 4 rfl
        have s0 := HS5.out.scell
        have e0 := HS5.out.val.cell 0 rfl
        have e1 := HS5.out.val.cell 1 rfl
        have e2 := HS5.out.val.cell 2 rfl
        have e3 := HS5.out.val.cell 3 rfl
        have e4 := HS5.out.val.cell 4 rfl
        have hS6 := HS5.out.go (W' := W5.alloc (.cells #[.string id, .int .i64 vr.k, .int .i64 vr.n, .string vr.s, .slice vr.pl vr.nl vr.cl, .slice vr.pm vr.nm vr.cm] 46)) ((Below.refl _ _).alloc (Nat.le_refl _) _)
        have hlenz := HOB.out.objs
        have hIns := insertO_any (W5.alloc (.cells #[.string id, .int .i64 vr.k, .int .i64 vr.n, .string vr.s, .slice vr.pl vr.nl vr.cl, .slice vr.pm vr.nm vr.cm] 46)) bs q1.po q1.no q1.co W5.heap.size (lowN b.objs id) ros ⟨id, vr⟩ (hro.alloc _) (by simp; omega) (by omega) (heap_alloc_at rfl) (fun e => by have := (hro.lt W5.heap.size (by rw [e]; rfl)).2; omega) (by omega)
        have HIns := Lib.hid hIns
        have HS6 := Lib.hid hS6
        have HN5 := Lib.hid hN5
        have HMS := Lib.hid hms
        have HRO := Lib.hid hro
        have HZB : Hid (bs ≤ W5.heap.size) := by unfold Hid; omega
        clear hIns hS6 hN5 hms hro hn1 hn2 hlenz hzb hz5 hbs
        go_upto_region 13 with (go_at_call 67; refine HIns.out.mono ?_; rintro e w6 ⟨p6, c6, rfl, ho6, hg6⟩; (have HS6' := Lib.hid (HS6.out.row hg6 (fun k e => by have := (HRO.out.lt k e).1; omega))); clear c0 c1 c2 c3 c4; (have c0 := HS6'.out.box.cell 0 rfl); (have c1 := HS6'.out.box.cell 1 rfl); (have c2 := HS6'.out.box.cell 2 rfl); (have c3 := HS6'.out.box.cell 3 rfl); (have c4 := HS6'.out.box.cell 4 rfl); (have x0 := HS6'.out.box.frozen 0); (have x1 := HS6'.out.box.frozen 1); (have x2 := HS6'.out.box.frozen 2); (have x3 := HS6'.out.box.frozen 3); (have x4 := HS6'.out.box.frozen 4))
        have hg7 := grownBy_set w6 w.heap.size 0 (.slice p6 (q1.no + 1) c6)
        have hB7 := HS6'.out.box.set0 p6 (q1.no + 1) c6
        have HS7 := Lib.hid (HS6'.out.setBox _ hB7 hg7)
        have hO7 := ho6.kept hg7 (.inr (fun e => by have := (ho6.lt _ e).1; omega))
        obtain ⟨W7, hW7⟩ : ∃ W7, w6.setCell ⟨w.heap.size, 0, none⟩ (.slice p6 (q1.no + 1) c6) = W7 := ⟨_, rfl⟩
        rw [hW7] at HS7 hO7 hg7 ⊢
        have hzb7 : bs ≤ W7.heap.size := by have h1 := hg6.size; have h2 := hg7.size; have := HZB.out; simp at h1; omega
        have hga : W5.grownBy w6 (Value.slice q1.po q1.no q1.co).ownBlock := (World.grownBy_alloc _ _ _).trans hg6
        have hb6 : Below w.heap.size W5 w6 := (Below.refl _ _).grown hga HS5.out.below.size (fun k e => by have := (HRO.out.lt k e).1; omega)
        have hMS7 : MemsOf W7 w.heap.size (b.objs.take (lowN b.objs id) ++ (id, v) :: b.objs.drop (lowN b.objs id)) (ros.take (lowN b.objs id) ++ (⟨id, vr⟩ : RM) :: ros.drop (lowN b.objs id)) :=
          ((HMS.out.insert (lowN b.objs id) (p := (id, v)) (q := ⟨id, vr⟩) rfl (HV.out.under HS5.out.below (Nat.le_refl _))).under hb6 (Nat.le_refl _)).under ((Below.refl _ _).grown hg7 (by have := HS6'.out.below.size; omega) (fun a e => by cases e; exact Nat.le_refl _)) (Nat.le_refl _)
        have hN6 := HN5.out.withObjs hga rfl (by decide) ho6 ((HMS.out.insert (lowN b.objs id) (p := (id, v)) (q := ⟨id, vr⟩) rfl (HV.out.under HS5.out.below (Nat.le_refl _))).under hb6 (Nat.le_refl _))
        have hne6 := hN6.ne (g := w.heap.size) (by omega)
        have HN7 := Lib.hid (hN6.kept hg7 hne6.1 hne6.2 (by have := HS6'.out.below.size; omega) (Nat.le_refl _))
        clear hW7 hg7 hB7 hO7 hga hb6 hMS7 hN6 hne6 ho6 hg6 c0 c1 c2 c3 c4 x0 x1 x2 x3 x4 s0 e0 e1 e2 e3 e4 HS6'
        have hz7 := HS7.out.size
        have hCh := changed_any { b with objs := b.objs.take (lowN b.objs id) ++ (id, v) :: b.objs.drop (lowN b.objs id) } ⟨p6, q1.no + 1, c6, q1.pt, q1.nt, q1.ct, q1.sq, q1.fl, q1.kp⟩ W7 bs w.heap.size id 1 HS7.out.below.size hzb7 HN7.out HOB.out.seq (by have := HFU.out; show b.seq < _; omega) HOB.out.floor HOB.out.keep (by have := HID.out; unfold maxLen; omega) (by decide) (by have := HOB.out.trail; show (b.trail.length + 1) * 32 ≤ _; omega)
        have HCh := Lib.hid hCh
        clear hCh
        have c0 := HS7.out.box.cell 0 rfl
        have c1 := HS7.out.box.cell 1 rfl
        have c2 := HS7.out.box.cell 2 rfl
        have c3 := HS7.out.box.cell 3 rfl
        have c4 := HS7.out.box.cell 4 rfl
        dsimp only at c0 c1 c2 c3 c4
        have s0 := HS7.out.scell
        go_wp2_with (go_at_call 66; refine HCh.out.mono ?_; rintro e w8 ⟨q8, rfl, hN8, hb8⟩; (have HS8 := Lib.hid (HS7.out.go hb8)); (have z0 := HS8.out.zero.cell 0 rfl); (have z1 := HS8.out.zero.cell 1 rfl); (have z2 := HS8.out.zero.cell 2 rfl); (have z3 := HS8.out.zero.cell 3 rfl); (have z4 := HS8.out.zero.cell 4 rfl); (have y0 := HS8.out.zero.frozen 0); (have y1 := HS8.out.zero.frozen 1); (have y2 := HS8.out.zero.frozen 2); (have y3 := HS8.out.zero.frozen 3); (have y4 := HS8.out.zero.frozen 4); dsimp only [RB.zero] at z0 z1 z2 z3 z4)
        have hz8 := HS8.out.size
        have hg9 := grownBy_setB w8 (w.heap.size + 1 + 1 + 1) q8
        have hne9 := hN8.ne (g := w.heap.size + 1 + 1 + 1) (by omega)
        refine bodyPost_ret (v := .tuple #[RB.val q8, .int .i64 0]) (by simp [results, Try.results22, go_sem, z0, z1, z2, z3, z4]) rfl ?_
        exact ⟨q8, by rw [HX.out], by rw [HX.out]; exact ((hN8.kept hg9 hne9.1 hne9.2 HS8.out.below.size (by omega)).mono (by omega) (Nat.le_refl _)), HS8.out.below.grown hg9 HS8.out.below.size (fun a e => by cases e; omega)⟩
  | true =>
    obtain ⟨p, hp, hpi, hpo⟩ := isAt_some hat
    have hi := (List.getElem?_eq_some_iff.1 hp).1
    obtain ⟨ros0, hro0, hms0⟩ := HBX.out.objs
    have hn0 := hms0.len
    have hn1 := rd_nlen hro0
    obtain ⟨q, hq⟩ : ∃ q, ros0[lowN b.objs id]? = some q := ⟨_, List.getElem?_eq_getElem (by omega)⟩
    have HTQ := Lib.hid (hms0.val _ p q hp hq)
    obtain ⟨b1, o1, hpo1, hb1', hc1⟩ := rd_at' (hro0.below HS1.out.below (Nat.le_refl _)) hq
    have f0 := hc1 0 _ rfl
    have f1 := hc1 1 _ rfl
    have f2 := hc1 2 _ rfl
    have f3 := hc1 3 _ rfl
    have f4 := hc1 4 _ rfl
    have f5 := hc1 5 _ rfl
    have HOP : Hid p.2.Ok := (HOB.out.each p (List.mem_of_getElem? hp)).2
    have HAT := Lib.hid hat
    have HP := Lib.hid hp
    have HPI := Lib.hid hpi
    have HPO := Lib.hid hpo
    have hi0 : (0 : Int) ≤ (lowN b.objs id : Int) := Int.natCast_nonneg _
    have hi1 : (lowN b.objs id : Int) < (r.no : Int) := by omega
    have HILT : Hid (lowN b.objs id < b.objs.length) := hi
    have hb1w : b1 < w1.heap.size := by have := HS1.out.below.size; omega
    have HPO1 := Lib.hid hpo1
    rw [hpo1] at c0
    clear hat hp hpi hpo hi hro0 hms0 hn0 hn1 hq hc1 hBX1 hpo1 hb1'
    have hSame := fun (W : World) (hk : KB w1.heap.size w1 W) => sameT_any _ p.2 v q.v vr W (Nat.le_refl _) (HTQ.out.under (HS1.out.below.trans (hk.1.mono HS1.out.below.size)) (HS1.out.below.trans (hk.1.mono HS1.out.below.size)).size) (HV.out.under (HS1.out.below.trans (hk.1.mono HS1.out.below.size)) (HS1.out.below.trans (hk.1.mono HS1.out.below.size)).size) HOP.out HOV.out
    by_cases hsame : SameT p.2 v
    · have HSM : Hid (∀ W, KB w1.heap.size w1 W → Calls Try.prog 35 #[q.v.val, vr.val] W fun e w' => e = .returned (.bool true) ∧ Below W.heap.size W w') := fun W hk => (hSame W hk).mono fun e w' h => h.yes hsame
      have HX : Hid (putB b id v = (b, 0)) := by unfold Hid putB; rw [if_pos HAT.out, if_pos (by rw [HPO.out]; exact hsame)]
      clear hSame hsame
      go_region_held3 (fun w' => Below w1.heap.size w1 w' ∧ ∀ b o, b < w1.heap.size → w'.cell? ⟨b, o, none⟩ = w1.cell? ⟨b, o, none⟩)
        (first | exact KB.drew w1 | exact hbk)
        ((go_at_call 35; refine (HSM.out _ (by assumption)).mono ?_; rintro e w2 ⟨rfl, hbs⟩; have hbk := KB.step (W := w1) (by assumption) hbs))
      rename (Below w1.heap.size w1 _ ∧ _) => hkb
      have HS2 := Lib.hid (HS1.out.go hkb.1)
      clear c0 c1 c2 c3 c4 s0 e0 e1 e2 e3 e4 z0 z1 z2 z3 z4 y0 y1 y2 y3 y4 f0 f1 f2 f3 f4 f5 hz1 hzz hb1w
      have c0 := HS2.out.box.cell 0 rfl
      have c1 := HS2.out.box.cell 1 rfl
      have c2 := HS2.out.box.cell 2 rfl
      have c3 := HS2.out.box.cell 3 rfl
      have c4 := HS2.out.box.cell 4 rfl
      have hz2 := HS2.out.size
      go_wp2_with (go_at_call 63; refine (own_any b r _ w.heap.size HS2.out.below.size (HBX.out.under HS2.out.below (Nat.le_refl _)) HOB.out).mono ?_; rintro e w4 ⟨q1, rfl, hN1, hb4⟩; (have HS4 := Lib.hid (HS2.out.go hb4)); (have z0 := HS4.out.zero.cell 0 rfl); (have z1 := HS4.out.zero.cell 1 rfl); (have z2 := HS4.out.zero.cell 2 rfl); (have z3 := HS4.out.zero.cell 3 rfl); (have z4 := HS4.out.zero.cell 4 rfl); (have y0 := HS4.out.zero.frozen 0); (have y1 := HS4.out.zero.frozen 1); (have y2 := HS4.out.zero.frozen 2); (have y3 := HS4.out.zero.frozen 3); (have y4 := HS4.out.zero.frozen 4); dsimp only [RB.zero] at z0 z1 z2 z3 z4)
      have hg9 := grownBy_setB w4 (w.heap.size + 1 + 1 + 1) q1
      have hne9 := hN1.ne (g := w.heap.size + 1 + 1 + 1) (by omega)
      refine bodyPost_ret (v := .tuple #[RB.val q1, .int .i64 0]) (by simp [results, Try.results22, go_sem, z0, z1, z2, z3, z4]) rfl ?_
      exact ⟨q1, by rw [HX.out], by rw [HX.out]; exact ((hN1.kept hg9 hne9.1 hne9.2 HS4.out.below.size (by omega)).mono HS2.out.below.size (Nat.le_refl _)), HS4.out.below.grown hg9 HS4.out.below.size (fun a e => by cases e; omega)⟩
    · have HSM : Hid (∀ W, KB w1.heap.size w1 W → Calls Try.prog 35 #[q.v.val, vr.val] W fun e w' => e = .returned (.bool false) ∧ Below W.heap.size W w') := fun W hk => (hSame W hk).mono fun e w' h => h.no hsame
      have HNS := Lib.hid hsame
      clear hSame hsame
      by_cases hfull : 9007199254740991 ≤ b.seq
      · have HX : Hid (putB b id v = (BoxD.zero, 180)) := by unfold Hid putB; rw [if_pos HAT.out, if_neg (by rw [HPO.out]; exact HNS.out), if_pos hfull]
        have hq : decide ((9007199254740991 : Int) ≤ r.sq) = true := by have := HSQ.out.1; simp; omega
        clear hfull
        go_region_held3 (fun w' => Below w1.heap.size w1 w' ∧ ∀ b o, b < w1.heap.size → w'.cell? ⟨b, o, none⟩ = w1.cell? ⟨b, o, none⟩)
          (first | exact KB.drew w1 | exact hbk)
          ((go_at_call 35; refine (HSM.out _ (by assumption)).mono ?_; rintro e w2 ⟨rfl, hbs⟩; have hbk := KB.step (W := w1) (by assumption) hbs))
        rename (Below w1.heap.size w1 _ ∧ _) => hkb
        have HS2 := Lib.hid (HS1.out.go hkb.1)
        clear c0 c1 c2 c3 c4 s0 e0 e1 e2 e3 e4 z0 z1 z2 z3 z4 y0 y1 y2 y3 y4 f0 f1 f2 f3 f4 f5 hz1 hzz hb1w
        have c0 := HS2.out.box.cell 0 rfl
        have c1 := HS2.out.box.cell 1 rfl
        have c2 := HS2.out.box.cell 2 rfl
        have c3 := HS2.out.box.cell 3 rfl
        have c4 := HS2.out.box.cell 4 rfl
        have z0 := HS2.out.zero.cell 0 rfl
        have z1 := HS2.out.zero.cell 1 rfl
        have z2 := HS2.out.zero.cell 2 rfl
        have z3 := HS2.out.zero.cell 3 rfl
        have z4 := HS2.out.zero.cell 4 rfl
        have y0 := HS2.out.zero.frozen 0
        have y1 := HS2.out.zero.frozen 1
        have y2 := HS2.out.zero.frozen 2
        have y3 := HS2.out.zero.frozen 3
        have y4 := HS2.out.zero.frozen 4
        dsimp only [RB.zero] at z0 z1 z2 z3 z4
        go_wp2_with fail
        refine bodyPost_ret (v := .tuple #[RB.val RB.zero, .int .i64 180]) (by simp [results, Try.results22, go_sem, RB.zero, z0, z1, z2, z3, z4]) rfl ?_
        exact ⟨RB.zero, by rw [HX.out], by rw [HX.out]; exact NewBox.zero _ _ _, HS2.out.below.grown (grownBy_setB _ _ RB.zero) HS2.out.below.size (fun a e => by cases e; omega)⟩
      · have HX : Hid (putB b id v = (chgB b (b.objs.set (lowN b.objs id) (id, v)) id 2, 0)) := by unfold Hid putB; rw [if_pos HAT.out, if_neg (by rw [HPO.out]; exact HNS.out), if_neg hfull]
        have hq : decide ((9007199254740991 : Int) ≤ r.sq) = false := by have := HSQ.out.1; simp; omega
        have HFU := Lib.hid hfull
        clear hfull
        go_region_held3 (fun w' => Below w1.heap.size w1 w' ∧ ∀ b o, b < w1.heap.size → w'.cell? ⟨b, o, none⟩ = w1.cell? ⟨b, o, none⟩)
          (first | exact KB.drew w1 | exact hbk)
          ((go_at_call 35; refine (HSM.out _ (by assumption)).mono ?_; rintro e w2 ⟨rfl, hbs⟩; have hbk := KB.step (W := w1) (by assumption) hbs))
        rename (Below w1.heap.size w1 _ ∧ _) => hkb
        have HS2 := Lib.hid (HS1.out.go hkb.1)
        clear c0 c1 c2 c3 c4 s0 e0 e1 e2 e3 e4 z0 z1 z2 z3 z4 y0 y1 y2 y3 y4 f0 f1 f2 f3 f4 f5 hz1 hzz hb1w
        have c0 := HS2.out.box.cell 0 rfl
        have c1 := HS2.out.box.cell 1 rfl
        have c2 := HS2.out.box.cell 2 rfl
        have c3 := HS2.out.box.cell 3 rfl
        have c4 := HS2.out.box.cell 4 rfl
        go_upto_region 9 with (go_at_call 63; refine (own_any b r _ w.heap.size HS2.out.below.size (HBX.out.under HS2.out.below (Nat.le_refl _)) HOB.out).mono ?_; rintro e w4 ⟨q1, rfl, hN1, hb4⟩; (have HS4 := Lib.hid (HS2.out.go hb4)); clear c0 c1 c2 c3 c4; (have c0 := HS4.out.box.cell 0 rfl); (have c1 := HS4.out.box.cell 1 rfl); (have c2 := HS4.out.box.cell 2 rfl); (have c3 := HS4.out.box.cell 3 rfl); (have c4 := HS4.out.box.cell 4 rfl); (have x0 := HS4.out.box.frozen 0); (have x1 := HS4.out.box.frozen 1); (have x2 := HS4.out.box.frozen 2); (have x3 := HS4.out.box.frozen 3); (have x4 := HS4.out.box.frozen 4))
        have hz3 := HS2.out.size
        have hg5 := grownBy_setB w4 w.heap.size q1
        have HS5 := Lib.hid (HS4.out.setBox q1 (HS4.out.box.stored q1) hg5)
        have hne5 := hN1.ne (g := w.heap.size) (by omega)
        have hN5 := hN1.kept hg5 hne5.1 hne5.2 HS4.out.below.size (Nat.le_refl _)
        obtain ⟨W5, hW5⟩ : ∃ W5, (((((w4.setCell ⟨w.heap.size, 0, none⟩ (.slice q1.po q1.no q1.co)).setCell ⟨w.heap.size, 1, none⟩ (.slice q1.pt q1.nt q1.ct)).setCell ⟨w.heap.size, 2, none⟩ (.int .i64 q1.sq)).setCell ⟨w.heap.size, 3, none⟩ (.int .i64 q1.fl)).setCell ⟨w.heap.size, 4, none⟩ (.int .i64 q1.kp)) = W5 := ⟨_, rfl⟩
        have hz5 : w4.heap.size = W5.heap.size := by rw [← hW5]; simp
        rw [hW5] at HS5 hN5 ⊢
        have hzb := hb4.size
        clear hW5 hg5 hne5 hN1 hb4 HS4 c0 c1 c2 c3 c4 x0 x1 x2 x3 x4
        obtain ⟨bs, hbs⟩ : ∃ n, w2.heap.size = n := ⟨_, rfl⟩
        rw [hbs] at hN5 hz3 hzb
        obtain ⟨ros, hro, hms⟩ := hN5.objs
        have hn1 := hms.len
        have hn2 := rd_nlen (hro.rd codecM)
        obtain ⟨x, hx⟩ : ∃ x, ros[lowN b.objs id]? = some x := ⟨_, List.getElem?_eq_getElem (by have := HILT.out; omega)⟩
        have hxn : x.name = id := by rw [← hms.name _ p x HP.out hx]; exact HPI.out
        obtain ⟨g, hpg, hnn, hgb, hgl, hcell, hfr⟩ := Own.at codecM hro hx
        have hi2 : (lowN b.objs id : Int) < (q1.no : Int) := by have := HILT.out; omega
        have HPG := Lib.hid hpg
        rw [hpg] at hro
        have hst := Own.storedVO hro hx vr
        have c0 := HS5.out.box.cell 0 rfl
        have c1 := HS5.out.box.cell 1 rfl
        have c2 := HS5.out.box.cell 2 rfl
        have c3 := HS5.out.box.cell 3 rfl
        have c4 := HS5.out.box.cell 4 rfl
        rw [hpg] at c0
        have e0 := HS5.out.val.cell 0 rfl
        have e1 := HS5.out.val.cell 1 rfl
        have e2 := HS5.out.val.cell 2 rfl
        have e3 := HS5.out.val.cell 3 rfl
        have e4 := HS5.out.val.cell 4 rfl
        have k0 := hcell 0 _ rfl
        have k1 := hcell 1 _ rfl
        have k2 := hcell 2 _ rfl
        have k3 := hcell 3 _ rfl
        have k4 := hcell 4 _ rfl
        have k5 := hcell 5 _ rfl
        rw [Nat.add_zero] at k0
        have m1 := hfr (lowN b.objs id * 6 + 1)
        have m2 := hfr (lowN b.objs id * 6 + 2)
        have m3 := hfr (lowN b.objs id * 6 + 3)
        have m4 := hfr (lowN b.objs id * 6 + 4)
        have m5 := hfr (lowN b.objs id * 6 + 5)
        have HST := Lib.hid hst
        have HN5 := Lib.hid hN5
        have HMS := Lib.hid hms
        have HZB : Hid (bs ≤ W5.heap.size) := by unfold Hid; omega
        have HXN := Lib.hid hxn
        clear hst hN5 hms hro hn1 hn2 hzb hz5 hbs hx hxn hpg hnn hcell hfr
        go_upto_region 11 with fail
        have hO7 := HST.out.1
        have hg7 := HST.out.2
        have hrow : some g = (Value.slice q1.po q1.no q1.co).ownBlock := by rw [HPG.out]; rfl
        have HS7 := Lib.hid (HS5.out.row hg7 (fun k e => by cases e; omega))
        have hzb7 : bs ≤ W5.heap.size := HZB.out
        have hm7 := ((HMS.out.set (lowN b.objs id) (p := (id, v)) (q := ⟨x.name, vr⟩) HXN.out.symm (HV.out.under HS5.out.below (Nat.le_refl _))).under ((Below.refl w.heap.size W5).grown hg7 HS5.out.below.size (fun k e => by cases e; omega)) (Nat.le_refl _))
        have hN7 := HN5.out.withObjs hg7 hrow (by decide) hO7 hm7
        have hqq : ({ q1 with po := some ⟨g, 0, none⟩, no := q1.no, co := q1.co } : RB) = q1 := by rw [← HPG.out]
        rw [hqq] at hN7
        have HN7 := Lib.hid hN7
        obtain ⟨W7, hW7⟩ : ∃ W7, (((((W5.setCell ⟨g, lowN b.objs id * 6 + 1, none⟩ (.int .i64 vr.k)).setCell ⟨g, lowN b.objs id * 6 + 2, none⟩ (.int .i64 vr.n)).setCell ⟨g, lowN b.objs id * 6 + 3, none⟩ (.string vr.s)).setCell ⟨g, lowN b.objs id * 6 + 4, none⟩ (.slice vr.pl vr.nl vr.cl)).setCell ⟨g, lowN b.objs id * 6 + 5, none⟩ (.slice vr.pm vr.nm vr.cm)) = W7 := ⟨_, rfl⟩
        have hz7 : W7.heap.size = W5.heap.size := by rw [← hW7]; simp
        rw [hW7] at HS7 HN7 ⊢
        clear hW7 hO7 hg7 hrow hm7 hN7 hqq HST k0 k1 k2 k3 k4 k5 m1 m2 m3 m4 m5 c0 c1 c2 c3 c4 e0 e1 e2 e3 e4
        have hCh := changed_any { b with objs := b.objs.set (lowN b.objs id) (id, v) } q1 W7 bs w.heap.size id 2 HS7.out.below.size (by omega) HN7.out HOB.out.seq (by have := HFU.out; show b.seq < _; omega) HOB.out.floor HOB.out.keep (by have := HID.out; unfold maxLen; omega) (by decide) (by have := HOB.out.trail; show (b.trail.length + 1) * 32 ≤ _; omega)
        have HCh := Lib.hid hCh
        have HZ7 := Lib.hid hz7
        clear hCh hz7
        have c0 := HS7.out.box.cell 0 rfl
        have c1 := HS7.out.box.cell 1 rfl
        have c2 := HS7.out.box.cell 2 rfl
        have c3 := HS7.out.box.cell 3 rfl
        have c4 := HS7.out.box.cell 4 rfl
        have s0 := HS7.out.scell
        go_wp2_with (go_at_call 66; refine HCh.out.mono ?_; rintro e w8 ⟨q8, rfl, hN8, hb8⟩; (have HS8 := Lib.hid (HS7.out.go hb8)); (have z0 := HS8.out.zero.cell 0 rfl); (have z1 := HS8.out.zero.cell 1 rfl); (have z2 := HS8.out.zero.cell 2 rfl); (have z3 := HS8.out.zero.cell 3 rfl); (have z4 := HS8.out.zero.cell 4 rfl); (have y0 := HS8.out.zero.frozen 0); (have y1 := HS8.out.zero.frozen 1); (have y2 := HS8.out.zero.frozen 2); (have y3 := HS8.out.zero.frozen 3); (have y4 := HS8.out.zero.frozen 4); dsimp only [RB.zero] at z0 z1 z2 z3 z4)
        have hg9 := grownBy_setB w8 (w.heap.size + 1 + 1 + 1) q8
        have hne9 := hN8.ne (g := w.heap.size + 1 + 1 + 1) (by omega)
        refine bodyPost_ret (v := .tuple #[RB.val q8, .int .i64 0]) (by simp [results, Try.results22, go_sem, z0, z1, z2, z3, z4]) rfl ?_
        exact ⟨q8, by rw [HX.out], by rw [HX.out]; exact ((hN8.kept hg9 hne9.1 hne9.2 HS8.out.below.size (by omega)).mono (by omega) (Nat.le_refl _)), HS8.out.below.grown hg9 HS8.out.below.size (fun a e => by cases e; omega)⟩
end Go.Proofs.Ythgkgjcnmahacaa
