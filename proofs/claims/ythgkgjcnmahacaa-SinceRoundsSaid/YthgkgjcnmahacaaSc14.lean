import Derived.Test.YthgkgjcnmahacaaSc13
import Derived.Test.YthgkgjcnmahacaaSc11
import Derived.ArgAppend
section
/- store.Put, walked. -/
set_option linter.unusedSimpArgs false
set_option linter.unusedVariables false
namespace Go.Proofs.Ythgkgjcnmahacaa
open Go.RowKit Go.OpenShut

theorem isAt_some {os : List (ByteArray × JV)} {id : ByteArray} (h : isAt os id = true) : ∃ p, os[lowN os id]? = some p ∧ p.1 = id ∧ oldV os id = p.2 := by
  unfold isAt at h
  unfold oldV
  cases e : os[lowN os id]? with
  | none => rw [e] at h; cases h
  | some p => rw [e] at h; exact ⟨p, rfl, by simpa using h, rfl⟩
theorem lowN_le (os : List (ByteArray × JV)) (id : ByteArray) : lowN os id ≤ os.length := (List.takeWhile_sublist _).length_le

set_option maxRecDepth 200000 in
set_option maxHeartbeats 8000000 in
theorem put_any (b : BoxD) (r : RB) (id : ByteArray) (v : JV) (vr : RV) (w : World) (hb : BoxOf w w.heap.size b r) (hr : Rising b.objs) (ob : b.Ok) (hv : TreeOf w w.heap.size v vr) (ov : v.Ok) (hid : id.size ≤ 140737488351232) :
    Calls Try.prog 22 #[r.val, .string id, vr.val] w (BoxErr w (putB b id v)) := by
  have hS := PutS.start w r id vr
  have HV := Lib.hid hv
  have HOV := Lib.hid ov
  have HBX := Lib.hid hb
  have HR := Lib.hid hr
  have HOB := Lib.hid ob
  have HID := Lib.hid hid
  have HSQ : Hid (b.seq = r.sq ∧ b.objs.length = r.no) := ⟨hb.seq, hb.objs.nlen⟩
  have hlo := lowN_le b.objs id
  clear hv ov hb hr ob hid
  go_enter Try.func22, Try.ntmps22
  go_upto_region 1 with fail
  obtain ⟨W0, hW0⟩ : ∃ W0, ((((w.alloc (.cells #[.slice r.po r.no r.co, .slice r.pt r.nt r.ct, .int .i64 r.sq, .int .i64 r.fl, .int .i64 r.kp] 35)).alloc (.cells #[.string id] 9)).alloc (.cells #[.int .i64 vr.k, .int .i64 vr.n, .string vr.s, .slice vr.pl vr.nl vr.cl, .slice vr.pm vr.nm vr.cm] 25)).alloc (.cells #[.slice none 0 0, .slice none 0 0, .int .i64 0, .int .i64 0, .int .i64 0] 35)) = W0 := ⟨_, rfl⟩
  rw [hW0] at hS ⊢
  clear hW0
  have HS := Lib.hid hS
  have hz0 := hS.sizes
  have c0 := hS.box.cell 0 rfl
  have c1 := hS.box.cell 1 rfl
  have c2 := hS.box.cell 2 rfl
  have c3 := hS.box.cell 3 rfl
  have c4 := hS.box.cell 4 rfl
  have s0 := hS.scell
  have HPL := Lib.hid (placeO_any b r id W0 (HBX.out.under hS.below hS.below.size) HR.out HOB.out)
  clear hS
  go_upto_region 2 with (go_at_call 59; refine HPL.out.mono ?_; rintro e w1 ⟨rfl, hb1⟩)
  have HS1 := Lib.hid (HS.out.go hb1)
  clear HPL HS hb1 c0 c1 c2 c3 c4 s0 hz0
  have hz1 := HS1.out.sizes
  have hzz := HS1.out.size
  have hBX1 := HBX.out.under HS1.out.below HS1.out.below.size
  have c0 := HS1.out.box.cell 0 rfl
  have c1 := HS1.out.box.cell 1 rfl
  have c2 := HS1.out.box.cell 2 rfl
  have c3 := HS1.out.box.cell 3 rfl
  have c4 := HS1.out.box.cell 4 rfl
  have s0 := HS1.out.scell
  have e0 := HS1.out.val.cell 0 rfl
  have e1 := HS1.out.val.cell 1 rfl
  have e2 := HS1.out.val.cell 2 rfl
  have e3 := HS1.out.val.cell 3 rfl
  have e4 := HS1.out.val.cell 4 rfl
  have z0 := HS1.out.zero.cell 0 rfl
  have z1 := HS1.out.zero.cell 1 rfl
  have z2 := HS1.out.zero.cell 2 rfl
  have z3 := HS1.out.zero.cell 3 rfl
  have z4 := HS1.out.zero.cell 4 rfl
  have y0 := HS1.out.zero.frozen 0
  have y1 := HS1.out.zero.frozen 1
  have y2 := HS1.out.zero.frozen 2
  have y3 := HS1.out.zero.frozen 3
  have y4 := HS1.out.zero.frozen 4
  dsimp only [RB.zero] at z0 z1 z2 z3 z4
  cases hat : isAt b.objs id with
  | false =>
    go_quiet (fail)
    have HS2 := Lib.hid (HS1.out.go (W' := w1.drewN nq) (bdn (Below.refl _ _) nq))
    have hbx := HBX.out.under HS2.out.below (Nat.le_refl _)
    obtain ⟨W2, hW2⟩ : ∃ W2, w1.drewN nq = W2 := ⟨_, rfl⟩
    rw [hW2] at HS2 hbx ⊢
    have hz2 := HS2.out.sizes
    have hzz2 := HS2.out.size
    clear hW2 c0 c1 c2 c3 c4 s0 e0 e1 e2 e3 e4 hz1 hzz hBX1 HS1 z0 y0 z1 y1 z2 y2 z3 y3 z4 y4
    have c0 := HS2.out.box.cell 0 rfl
    have c1 := HS2.out.box.cell 1 rfl
    have c2 := HS2.out.box.cell 2 rfl
    have c3 := HS2.out.box.cell 3 rfl
    have c4 := HS2.out.box.cell 4 rfl
    have s0 := HS2.out.scell
    have e0 := HS2.out.val.cell 0 rfl
    have e1 := HS2.out.val.cell 1 rfl
    have e2 := HS2.out.val.cell 2 rfl
    have e3 := HS2.out.val.cell 3 rfl
    have e4 := HS2.out.val.cell 4 rfl
    have z0 := HS2.out.zero.cell 0 rfl
    have z1 := HS2.out.zero.cell 1 rfl
    have z2 := HS2.out.zero.cell 2 rfl
    have z3 := HS2.out.zero.cell 3 rfl
    have z4 := HS2.out.zero.cell 4 rfl
    have y0 := HS2.out.zero.frozen 0
    have y1 := HS2.out.zero.frozen 1
    have y2 := HS2.out.zero.frozen 2
    have y3 := HS2.out.zero.frozen 3
    have y4 := HS2.out.zero.frozen 4
    dsimp only [RB.zero] at z0 z1 z2 z3 z4
    have hC := containsE_any W2 r.pt r.nt r.ct b.trail ((rdE_iff.1 (hbx.under (Below.refl _ _) HS2.out.below.size).trail).2) (w.heap.size + 1) id s0 HOB.out.trail
    have HAT := Lib.hid hat
    have HBX2 := Lib.hid hbx
    clear hat hbx
    cases htd : toldB b.trail id with
    | true =>
      rw [htd] at hC
      have HX : Hid (putB b id v = (BoxD.zero, 181)) := by unfold Hid putB; rw [if_neg (by rw [HAT.out]; decide), if_pos htd]
      have HC := Lib.hid hC
      clear hC htd
      go_wp2_with (go_at_call 64; refine HC.out.mono ?_; rintro e w3 ⟨rfl, hb3⟩; (have HS3 := Lib.hid (HS2.out.go hb3)); clear z0 z1 z2 z3 z4 y0 y1 y2 y3 y4; (have z0 := HS3.out.zero.cell 0 rfl); (have z1 := HS3.out.zero.cell 1 rfl); (have z2 := HS3.out.zero.cell 2 rfl); (have z3 := HS3.out.zero.cell 3 rfl); (have z4 := HS3.out.zero.cell 4 rfl); (have y0 := HS3.out.zero.frozen 0); (have y1 := HS3.out.zero.frozen 1); (have y2 := HS3.out.zero.frozen 2); (have y3 := HS3.out.zero.frozen 3); (have y4 := HS3.out.zero.frozen 4); dsimp only [RB.zero] at z0 z1 z2 z3 z4)
      have hz3 := HS3.out.sizes
      refine bodyPost_ret (v := .tuple #[RB.val RB.zero, .int .i64 181]) (by simp [results, Try.results22, go_sem, RB.zero, z0, z1, z2, z3, z4]) rfl ?_
      exact ⟨RB.zero, by rw [HX.out], by rw [HX.out]; exact NewBox.zero _ _ _, HS3.out.below.grown (grownBy_setB _ _ RB.zero) HS3.out.below.size (fun a e => by cases e; omega)⟩
    | false =>
      rw [htd] at hC
      have HC := Lib.hid hC
      have HTD := Lib.hid htd
      clear hC htd
      by_cases hfull : 9007199254740991 ≤ b.seq
      · have HX : Hid (putB b id v = (BoxD.zero, 180)) := by unfold Hid putB; rw [if_neg (by rw [HAT.out]; decide), if_neg (by rw [HTD.out]; decide), if_pos hfull]
        have hq : decide ((9007199254740991 : Int) ≤ r.sq) = true := by have := HSQ.out.1; simp; omega
        clear hfull
        go_wp2_with (go_at_call 64; refine HC.out.mono ?_; rintro e w3 ⟨rfl, hb3⟩; (have HS3 := Lib.hid (HS2.out.go hb3)); (have c2' := HS3.out.box.cell 2 rfl); clear z0 z1 z2 z3 z4 y0 y1 y2 y3 y4; (have z0 := HS3.out.zero.cell 0 rfl); (have z1 := HS3.out.zero.cell 1 rfl); (have z2 := HS3.out.zero.cell 2 rfl); (have z3 := HS3.out.zero.cell 3 rfl); (have z4 := HS3.out.zero.cell 4 rfl); (have y0 := HS3.out.zero.frozen 0); (have y1 := HS3.out.zero.frozen 1); (have y2 := HS3.out.zero.frozen 2); (have y3 := HS3.out.zero.frozen 3); (have y4 := HS3.out.zero.frozen 4); dsimp only [RB.zero] at z0 z1 z2 z3 z4)
        have hz3 := HS3.out.sizes
        refine bodyPost_ret (v := .tuple #[RB.val RB.zero, .int .i64 180]) (by simp [results, Try.results22, go_sem, RB.zero, z0, z1, z2, z3, z4]) rfl ?_
        exact ⟨RB.zero, by rw [HX.out], by rw [HX.out]; exact NewBox.zero _ _ _, HS3.out.below.grown (grownBy_setB _ _ RB.zero) HS3.out.below.size (fun a e => by cases e; omega)⟩
      · have HX : Hid (putB b id v = (chgB b (b.objs.take (lowN b.objs id) ++ (id, v) :: b.objs.drop (lowN b.objs id)) id 1, 0)) := by unfold Hid putB; rw [if_neg (by rw [HAT.out]; decide), if_neg (by rw [HTD.out]; decide), if_neg hfull]
        have hq : decide ((9007199254740991 : Int) ≤ r.sq) = false := by have := HSQ.out.1; simp; omega
        have HFU := Lib.hid hfull
        clear hfull
        go_upto_region 8 with (go_at_call 64; refine HC.out.mono ?_; rintro e w3 ⟨rfl, hb3⟩; (have HS3 := Lib.hid (HS2.out.go hb3)); (have c2' := HS3.out.box.cell 2 rfl))
        clear c0 c1 c2 c3 c4 c2' s0 e0 e1 e2 e3 e4 z0 y0 z1 y1 z2 y2 z3 y3 z4 y4
        have c0 := HS3.out.box.cell 0 rfl
        have c1 := HS3.out.box.cell 1 rfl
        have c2 := HS3.out.box.cell 2 rfl
        have c3 := HS3.out.box.cell 3 rfl
        have c4 := HS3.out.box.cell 4 rfl
        go_upto_region 9 with (go_at_call 63; refine (own_any b r _ w.heap.size HS3.out.below.size (HBX.out.under HS3.out.below (Nat.le_refl _)) HOB.out).mono ?_; rintro e w4 ⟨q1, rfl, hN1, hb4⟩; (have HS4 := Lib.hid (HS3.out.go hb4)); clear c0 c1 c2 c3 c4; (have c0 := HS4.out.box.cell 0 rfl); (have c1 := HS4.out.box.cell 1 rfl); (have c2 := HS4.out.box.cell 2 rfl); (have c3 := HS4.out.box.cell 3 rfl); (have c4 := HS4.out.box.cell 4 rfl); (have x0 := HS4.out.box.frozen 0); (have x1 := HS4.out.box.frozen 1); (have x2 := HS4.out.box.frozen 2); (have x3 := HS4.out.box.frozen 3); (have x4 := HS4.out.box.frozen 4))
        have hz3 := HS3.out.size
        have hg5 := grownBy_setB w4 w.heap.size q1
        have HS5 := Lib.hid (HS4.out.setBox q1 (HS4.out.box.stored q1) hg5)
        have hne5 := hN1.ne (g := w.heap.size) (by omega)
        have hN5 := hN1.kept hg5 hne5.1 hne5.2 HS4.out.below.size (Nat.le_refl _)
        obtain ⟨W5, hW5⟩ : ∃ W5, (((((w4.setCell ⟨w.heap.size, 0, none⟩ (.slice q1.po q1.no q1.co)).setCell ⟨w.heap.size, 1, none⟩ (.slice q1.pt q1.nt q1.ct)).setCell ⟨w.heap.size, 2, none⟩ (.int .i64 q1.sq)).setCell ⟨w.heap.size, 3, none⟩ (.int .i64 q1.fl)).setCell ⟨w.heap.size, 4, none⟩ (.int .i64 q1.kp)) = W5 := ⟨_, rfl⟩
        have hz5 : w4.heap.size = W5.heap.size := by rw [← hW5]; simp
        rw [hW5] at HS5 hN5 ⊢
        have hzb := hb4.size
        clear hW5 hg5 hne5 hN1 hb4 HS4 c0 c1 c2 c3 c4 x0 x1 x2 x3 x4
        obtain ⟨bs, hbs⟩ : ∃ n, w3.heap.size = n := ⟨_, rfl⟩
        rw [hbs] at hN5 hz3 hzb
        obtain ⟨ros, hro, hms⟩ := hN5.objs
        have hn1 := hms.len
        have hn2 := rd_nlen (hro.rd codecM)
        have c0 := HS5.out.box.cell 0 rfl
        have c1 := HS5.out.box.cell 1 rfl
        have c2 := HS5.out.box.cell 2 rfl
        have c3 := HS5.out.box.cell 3 rfl
        have c4 := HS5.out.box.cell 4 rfl
        have s0 := HS5.out.scell
        have e0 := HS5.out.val.cell 0 rfl
        have e1 := HS5.out.val.cell 1 rfl
        have e2 := HS5.out.val.cell 2 rfl
        have e3 := HS5.out.val.cell 3 rfl
        have e4 := HS5.out.val.cell 4 rfl
        have hS6 := HS5.out.go (W' := W5.alloc (.cells #[.string id, .int .i64 vr.k, .int .i64 vr.n, .string vr.s, .slice vr.pl vr.nl vr.cl, .slice vr.pm vr.nm vr.cm] 46)) ((Below.refl _ _).alloc (Nat.le_refl _) _)
        have hlenz := HOB.out.objs
        have hIns := insertO_any (W5.alloc (.cells #[.string id, .int .i64 vr.k, .int .i64 vr.n, .string vr.s, .slice vr.pl vr.nl vr.cl, .slice vr.pm vr.nm vr.cm] 46)) bs q1.po q1.no q1.co W5.heap.size (lowN b.objs id) ros ⟨id, vr⟩ (hro.alloc _) (by simp; omega) (by omega) (heap_alloc_at rfl) (fun e => by have := (hro.lt W5.heap.size (by rw [e]; rfl)).2; omega) (by omega)
        have HIns := Lib.hid hIns
        have HS6 := Lib.hid hS6
        have HN5 := Lib.hid hN5
        have HMS := Lib.hid hms
        have HRO := Lib.hid hro
        have HZB : Hid (bs ≤ W5.heap.size) := by unfold Hid; omega
        clear hIns hS6 hN5 hms hro hn1 hn2 hlenz hzb hz5 hbs
        go_upto_region 13 with (go_at_call 67; refine HIns.out.mono ?_; rintro e w6 ⟨p6, c6, rfl, ho6, hg6⟩; (have HS6' := Lib.hid (HS6.out.row hg6 (fun k e => by have := (HRO.out.lt k e).1; omega))); clear c0 c1 c2 c3 c4; (have c0 := HS6'.out.box.cell 0 rfl); (have c1 := HS6'.out.box.cell 1 rfl); (have c2 := HS6'.out.box.cell 2 rfl); (have c3 := HS6'.out.box.cell 3 rfl); (have c4 := HS6'.out.box.cell 4 rfl); (have x0 := HS6'.out.box.frozen 0); (have x1 := HS6'.out.box.frozen 1); (have x2 := HS6'.out.box.frozen 2); (have x3 := HS6'.out.box.frozen 3); (have x4 := HS6'.out.box.frozen 4))
        have hg7 := grownBy_set w6 w.heap.size 0 (.slice p6 (q1.no + 1) c6)
        have hB7 := HS6'.out.box.set0 p6 (q1.no + 1) c6
        have HS7 := Lib.hid (HS6'.out.setBox _ hB7 hg7)
        have hO7 := ho6.kept hg7 (.inr (fun e => by have := (ho6.lt _ e).1; omega))
        obtain ⟨W7, hW7⟩ : ∃ W7, w6.setCell ⟨w.heap.size, 0, none⟩ (.slice p6 (q1.no + 1) c6) = W7 := ⟨_, rfl⟩
        rw [hW7] at HS7 hO7 hg7 ⊢
        have hzb7 : bs ≤ W7.heap.size := by have h1 := hg6.size; have h2 := hg7.size; have := HZB.out; simp at h1; omega
        have hga : W5.grownBy w6 (Value.slice q1.po q1.no q1.co).ownBlock := (World.grownBy_alloc _ _ _).trans hg6
        have hb6 : Below w.heap.size W5 w6 := (Below.refl _ _).grown hga HS5.out.below.size (fun k e => by have := (HRO.out.lt k e).1; omega)
        have hMS7 : MemsOf W7 w.heap.size (b.objs.take (lowN b.objs id) ++ (id, v) :: b.objs.drop (lowN b.objs id)) (ros.take (lowN b.objs id) ++ (⟨id, vr⟩ : RM) :: ros.drop (lowN b.objs id)) :=
          ((HMS.out.insert (lowN b.objs id) (p := (id, v)) (q := ⟨id, vr⟩) rfl (HV.out.under HS5.out.below (Nat.le_refl _))).under hb6 (Nat.le_refl _)).under ((Below.refl _ _).grown hg7 (by have := HS6'.out.below.size; omega) (fun a e => by cases e; exact Nat.le_refl _)) (Nat.le_refl _)
        have hN6 := HN5.out.withObjs hga rfl (by decide) ho6 ((HMS.out.insert (lowN b.objs id) (p := (id, v)) (q := ⟨id, vr⟩) rfl (HV.out.under HS5.out.below (Nat.le_refl _))).under hb6 (Nat.le_refl _))
        have hne6 := hN6.ne (g := w.heap.size) (by omega)
        have HN7 := Lib.hid (hN6.kept hg7 hne6.1 hne6.2 (by have := HS6'.out.below.size; omega) (Nat.le_refl _))
        clear hW7 hg7 hB7 hO7 hga hb6 hMS7 hN6 hne6 ho6 hg6 c0 c1 c2 c3 c4 x0 x1 x2 x3 x4 s0 e0 e1 e2 e3 e4 HS6'
        have hz7 := HS7.out.size
        have hCh := changed_any { b with objs := b.objs.take (lowN b.objs id) ++ (id, v) :: b.objs.drop (lowN b.objs id) } ⟨p6, q1.no + 1, c6, q1.pt, q1.nt, q1.ct, q1.sq, q1.fl, q1.kp⟩ W7 bs w.heap.size id 1 HS7.out.below.size hzb7 HN7.out HOB.out.seq (by have := HFU.out; show b.seq < _; omega) HOB.out.floor HOB.out.keep (by have := HID.out; unfold maxLen; omega) (by decide) (by have := HOB.out.trail; show (b.trail.length + 1) * 32 ≤ _; omega)
        have HCh := Lib.hid hCh
        clear hCh
        have c0 := HS7.out.box.cell 0 rfl
        have c1 := HS7.out.box.cell 1 rfl
        have c2 := HS7.out.box.cell 2 rfl
        have c3 := HS7.out.box.cell 3 rfl
        have c4 := HS7.out.box.cell 4 rfl
        dsimp only at c0 c1 c2 c3 c4
        have s0 := HS7.out.scell
        go_wp2_with (go_at_call 66; refine HCh.out.mono ?_; rintro e w8 ⟨q8, rfl, hN8, hb8⟩; (have HS8 := Lib.hid (HS7.out.go hb8)); (have z0 := HS8.out.zero.cell 0 rfl); (have z1 := HS8.out.zero.cell 1 rfl); (have z2 := HS8.out.zero.cell 2 rfl); (have z3 := HS8.out.zero.cell 3 rfl); (have z4 := HS8.out.zero.cell 4 rfl); (have y0 := HS8.out.zero.frozen 0); (have y1 := HS8.out.zero.frozen 1); (have y2 := HS8.out.zero.frozen 2); (have y3 := HS8.out.zero.frozen 3); (have y4 := HS8.out.zero.frozen 4); dsimp only [RB.zero] at z0 z1 z2 z3 z4)
        have hz8 := HS8.out.size
        have hg9 := grownBy_setB w8 (w.heap.size + 1 + 1 + 1) q8
        have hne9 := hN8.ne (g := w.heap.size + 1 + 1 + 1) (by omega)
        refine bodyPost_ret (v := .tuple #[RB.val q8, .int .i64 0]) (by simp [results, Try.results22, go_sem, z0, z1, z2, z3, z4]) rfl ?_
        exact ⟨q8, by rw [HX.out], by rw [HX.out]; exact ((hN8.kept hg9 hne9.1 hne9.2 HS8.out.below.size (by omega)).mono (by omega) (Nat.le_refl _)), HS8.out.below.grown hg9 HS8.out.below.size (fun a e => by cases e; omega)⟩
  | true =>
    obtain ⟨p, hp, hpi, hpo⟩ := isAt_some hat
    have hi := (List.getElem?_eq_some_iff.1 hp).1
    obtain ⟨ros0, hro0, hms0⟩ := HBX.out.objs
    have hn0 := hms0.len
    have hn1 := rd_nlen hro0
    obtain ⟨q, hq⟩ : ∃ q, ros0[lowN b.objs id]? = some q := ⟨_, List.getElem?_eq_getElem (by omega)⟩
    have HTQ := Lib.hid (hms0.val _ p q hp hq)
    obtain ⟨b1, o1, hpo1, hb1', hc1⟩ := rd_at' (hro0.below HS1.out.below (Nat.le_refl _)) hq
    have f0 := hc1 0 _ rfl
    have f1 := hc1 1 _ rfl
    have f2 := hc1 2 _ rfl
    have f3 := hc1 3 _ rfl
    have f4 := hc1 4 _ rfl
    have f5 := hc1 5 _ rfl
    have HOP : Hid p.2.Ok := (HOB.out.each p (List.mem_of_getElem? hp)).2
    have HAT := Lib.hid hat
    have HP := Lib.hid hp
    have HPI := Lib.hid hpi
    have HPO := Lib.hid hpo
    have hi0 : (0 : Int) ≤ (lowN b.objs id : Int) := Int.natCast_nonneg _
    have hi1 : (lowN b.objs id : Int) < (r.no : Int) := by omega
    have HILT : Hid (lowN b.objs id < b.objs.length) := hi
    have hb1w : b1 < w1.heap.size := by have := HS1.out.below.size; omega
    have HPO1 := Lib.hid hpo1
    rw [hpo1] at c0
    clear hat hp hpi hpo hi hro0 hms0 hn0 hn1 hq hc1 hBX1 hpo1 hb1'
    have hSame := fun (W : World) (hk : KB w1.heap.size w1 W) => sameT_any _ p.2 v q.v vr W (Nat.le_refl _) (HTQ.out.under (HS1.out.below.trans (hk.1.mono HS1.out.below.size)) (HS1.out.below.trans (hk.1.mono HS1.out.below.size)).size) (HV.out.under (HS1.out.below.trans (hk.1.mono HS1.out.below.size)) (HS1.out.below.trans (hk.1.mono HS1.out.below.size)).size) HOP.out HOV.out
    by_cases hsame : SameT p.2 v
    · have HSM : Hid (∀ W, KB w1.heap.size w1 W → Calls Try.prog 35 #[q.v.val, vr.val] W fun e w' => e = .returned (.bool true) ∧ Below W.heap.size W w') := fun W hk => (hSame W hk).mono fun e w' h => h.yes hsame
      have HX : Hid (putB b id v = (b, 0)) := by unfold Hid putB; rw [if_pos HAT.out, if_pos (by rw [HPO.out]; exact hsame)]
      clear hSame hsame
      go_region_held3 (fun w' => Below w1.heap.size w1 w' ∧ ∀ b o, b < w1.heap.size → w'.cell? ⟨b, o, none⟩ = w1.cell? ⟨b, o, none⟩)
        (first | exact KB.drew w1 | exact hbk)
        ((go_at_call 35; refine (HSM.out _ (by assumption)).mono ?_; rintro e w2 ⟨rfl, hbs⟩; have hbk := KB.step (W := w1) (by assumption) hbs))
      rename (Below w1.heap.size w1 _ ∧ _) => hkb
      have HS2 := Lib.hid (HS1.out.go hkb.1)
      clear c0 c1 c2 c3 c4 s0 e0 e1 e2 e3 e4 z0 z1 z2 z3 z4 y0 y1 y2 y3 y4 f0 f1 f2 f3 f4 f5 hz1 hzz hb1w
      have c0 := HS2.out.box.cell 0 rfl
      have c1 := HS2.out.box.cell 1 rfl
      have c2 := HS2.out.box.cell 2 rfl
      have c3 := HS2.out.box.cell 3 rfl
      have c4 := HS2.out.box.cell 4 rfl
      have hz2 := HS2.out.size
      go_wp2_with (go_at_call 63; refine (own_any b r _ w.heap.size HS2.out.below.size (HBX.out.under HS2.out.below (Nat.le_refl _)) HOB.out).mono ?_; rintro e w4 ⟨q1, rfl, hN1, hb4⟩; (have HS4 := Lib.hid (HS2.out.go hb4)); (have z0 := HS4.out.zero.cell 0 rfl); (have z1 := HS4.out.zero.cell 1 rfl); (have z2 := HS4.out.zero.cell 2 rfl); (have z3 := HS4.out.zero.cell 3 rfl); (have z4 := HS4.out.zero.cell 4 rfl); (have y0 := HS4.out.zero.frozen 0); (have y1 := HS4.out.zero.frozen 1); (have y2 := HS4.out.zero.frozen 2); (have y3 := HS4.out.zero.frozen 3); (have y4 := HS4.out.zero.frozen 4); dsimp only [RB.zero] at z0 z1 z2 z3 z4)
      have hg9 := grownBy_setB w4 (w.heap.size + 1 + 1 + 1) q1
      have hne9 := hN1.ne (g := w.heap.size + 1 + 1 + 1) (by omega)
      refine bodyPost_ret (v := .tuple #[RB.val q1, .int .i64 0]) (by simp [results, Try.results22, go_sem, z0, z1, z2, z3, z4]) rfl ?_
      exact ⟨q1, by rw [HX.out], by rw [HX.out]; exact ((hN1.kept hg9 hne9.1 hne9.2 HS4.out.below.size (by omega)).mono HS2.out.below.size (Nat.le_refl _)), HS4.out.below.grown hg9 HS4.out.below.size (fun a e => by cases e; omega)⟩
    · have HSM : Hid (∀ W, KB w1.heap.size w1 W → Calls Try.prog 35 #[q.v.val, vr.val] W fun e w' => e = .returned (.bool false) ∧ Below W.heap.size W w') := fun W hk => (hSame W hk).mono fun e w' h => h.no hsame
      have HNS := Lib.hid hsame
      clear hSame hsame
      by_cases hfull : 9007199254740991 ≤ b.seq
      · have HX : Hid (putB b id v = (BoxD.zero, 180)) := by unfold Hid putB; rw [if_pos HAT.out, if_neg (by rw [HPO.out]; exact HNS.out), if_pos hfull]
        have hq : decide ((9007199254740991 : Int) ≤ r.sq) = true := by have := HSQ.out.1; simp; omega
        clear hfull
        go_region_held3 (fun w' => Below w1.heap.size w1 w' ∧ ∀ b o, b < w1.heap.size → w'.cell? ⟨b, o, none⟩ = w1.cell? ⟨b, o, none⟩)
          (first | exact KB.drew w1 | exact hbk)
          ((go_at_call 35; refine (HSM.out _ (by assumption)).mono ?_; rintro e w2 ⟨rfl, hbs⟩; have hbk := KB.step (W := w1) (by assumption) hbs))
        rename (Below w1.heap.size w1 _ ∧ _) => hkb
        have HS2 := Lib.hid (HS1.out.go hkb.1)
        clear c0 c1 c2 c3 c4 s0 e0 e1 e2 e3 e4 z0 z1 z2 z3 z4 y0 y1 y2 y3 y4 f0 f1 f2 f3 f4 f5 hz1 hzz hb1w
        have c0 := HS2.out.box.cell 0 rfl
        have c1 := HS2.out.box.cell 1 rfl
        have c2 := HS2.out.box.cell 2 rfl
        have c3 := HS2.out.box.cell 3 rfl
        have c4 := HS2.out.box.cell 4 rfl
        have z0 := HS2.out.zero.cell 0 rfl
        have z1 := HS2.out.zero.cell 1 rfl
        have z2 := HS2.out.zero.cell 2 rfl
        have z3 := HS2.out.zero.cell 3 rfl
        have z4 := HS2.out.zero.cell 4 rfl
        have y0 := HS2.out.zero.frozen 0
        have y1 := HS2.out.zero.frozen 1
        have y2 := HS2.out.zero.frozen 2
        have y3 := HS2.out.zero.frozen 3
        have y4 := HS2.out.zero.frozen 4
        dsimp only [RB.zero] at z0 z1 z2 z3 z4
        go_wp2_with fail
        refine bodyPost_ret (v := .tuple #[RB.val RB.zero, .int .i64 180]) (by simp [results, Try.results22, go_sem, RB.zero, z0, z1, z2, z3, z4]) rfl ?_
        exact ⟨RB.zero, by rw [HX.out], by rw [HX.out]; exact NewBox.zero _ _ _, HS2.out.below.grown (grownBy_setB _ _ RB.zero) HS2.out.below.size (fun a e => by cases e; omega)⟩
      · have HX : Hid (putB b id v = (chgB b (b.objs.set (lowN b.objs id) (id, v)) id 2, 0)) := by unfold Hid putB; rw [if_pos HAT.out, if_neg (by rw [HPO.out]; exact HNS.out), if_neg hfull]
        have hq : decide ((9007199254740991 : Int) ≤ r.sq) = false := by have := HSQ.out.1; simp; omega
        have HFU := Lib.hid hfull
        clear hfull
        go_region_held3 (fun w' => Below w1.heap.size w1 w' ∧ ∀ b o, b < w1.heap.size → w'.cell? ⟨b, o, none⟩ = w1.cell? ⟨b, o, none⟩)
          (first | exact KB.drew w1 | exact hbk)
          ((go_at_call 35; refine (HSM.out _ (by assumption)).mono ?_; rintro e w2 ⟨rfl, hbs⟩; have hbk := KB.step (W := w1) (by assumption) hbs))
        rename (Below w1.heap.size w1 _ ∧ _) => hkb
        have HS2 := Lib.hid (HS1.out.go hkb.1)
        clear c0 c1 c2 c3 c4 s0 e0 e1 e2 e3 e4 z0 z1 z2 z3 z4 y0 y1 y2 y3 y4 f0 f1 f2 f3 f4 f5 hz1 hzz hb1w
        have c0 := HS2.out.box.cell 0 rfl
        have c1 := HS2.out.box.cell 1 rfl
        have c2 := HS2.out.box.cell 2 rfl
        have c3 := HS2.out.box.cell 3 rfl
        have c4 := HS2.out.box.cell 4 rfl
        go_upto_region 9 with (go_at_call 63; refine (own_any b r _ w.heap.size HS2.out.below.size (HBX.out.under HS2.out.below (Nat.le_refl _)) HOB.out).mono ?_; rintro e w4 ⟨q1, rfl, hN1, hb4⟩; (have HS4 := Lib.hid (HS2.out.go hb4)); clear c0 c1 c2 c3 c4; (have c0 := HS4.out.box.cell 0 rfl); (have c1 := HS4.out.box.cell 1 rfl); (have c2 := HS4.out.box.cell 2 rfl); (have c3 := HS4.out.box.cell 3 rfl); (have c4 := HS4.out.box.cell 4 rfl); (have x0 := HS4.out.box.frozen 0); (have x1 := HS4.out.box.frozen 1); (have x2 := HS4.out.box.frozen 2); (have x3 := HS4.out.box.frozen 3); (have x4 := HS4.out.box.frozen 4))
        have hz3 := HS2.out.size
        have hg5 := grownBy_setB w4 w.heap.size q1
        have HS5 := Lib.hid (HS4.out.setBox q1 (HS4.out.box.stored q1) hg5)
        have hne5 := hN1.ne (g := w.heap.size) (by omega)
        have hN5 := hN1.kept hg5 hne5.1 hne5.2 HS4.out.below.size (Nat.le_refl _)
        obtain ⟨W5, hW5⟩ : ∃ W5, (((((w4.setCell ⟨w.heap.size, 0, none⟩ (.slice q1.po q1.no q1.co)).setCell ⟨w.heap.size, 1, none⟩ (.slice q1.pt q1.nt q1.ct)).setCell ⟨w.heap.size, 2, none⟩ (.int .i64 q1.sq)).setCell ⟨w.heap.size, 3, none⟩ (.int .i64 q1.fl)).setCell ⟨w.heap.size, 4, none⟩ (.int .i64 q1.kp)) = W5 := ⟨_, rfl⟩
        have hz5 : w4.heap.size = W5.heap.size := by rw [← hW5]; simp
        rw [hW5] at HS5 hN5 ⊢
        have hzb := hb4.size
        clear hW5 hg5 hne5 hN1 hb4 HS4 c0 c1 c2 c3 c4 x0 x1 x2 x3 x4
        obtain ⟨bs, hbs⟩ : ∃ n, w2.heap.size = n := ⟨_, rfl⟩
        rw [hbs] at hN5 hz3 hzb
        obtain ⟨ros, hro, hms⟩ := hN5.objs
        have hn1 := hms.len
        have hn2 := rd_nlen (hro.rd codecM)
        obtain ⟨x, hx⟩ : ∃ x, ros[lowN b.objs id]? = some x := ⟨_, List.getElem?_eq_getElem (by have := HILT.out; omega)⟩
        have hxn : x.name = id := by rw [← hms.name _ p x HP.out hx]; exact HPI.out
        obtain ⟨g, hpg, hnn, hgb, hgl, hcell, hfr⟩ := Own.at codecM hro hx
        have hi2 : (lowN b.objs id : Int) < (q1.no : Int) := by have := HILT.out; omega
        have HPG := Lib.hid hpg
        rw [hpg] at hro
        have hst := Own.storedVO hro hx vr
        have c0 := HS5.out.box.cell 0 rfl
        have c1 := HS5.out.box.cell 1 rfl
        have c2 := HS5.out.box.cell 2 rfl
        have c3 := HS5.out.box.cell 3 rfl
        have c4 := HS5.out.box.cell 4 rfl
        rw [hpg] at c0
        have e0 := HS5.out.val.cell 0 rfl
        have e1 := HS5.out.val.cell 1 rfl
        have e2 := HS5.out.val.cell 2 rfl
        have e3 := HS5.out.val.cell 3 rfl
        have e4 := HS5.out.val.cell 4 rfl
        have k0 := hcell 0 _ rfl
        have k1 := hcell 1 _ rfl
        have k2 := hcell 2 _ rfl
        have k3 := hcell 3 _ rfl
        have k4 := hcell 4 _ rfl
        have k5 := hcell 5 _ rfl
        rw [Nat.add_zero] at k0
        have m1 := hfr (lowN b.objs id * 6 + 1)
        have m2 := hfr (lowN b.objs id * 6 + 2)
        have m3 := hfr (lowN b.objs id * 6 + 3)
        have m4 := hfr (lowN b.objs id * 6 + 4)
        have m5 := hfr (lowN b.objs id * 6 + 5)
        have HST := Lib.hid hst
        have HN5 := Lib.hid hN5
        have HMS := Lib.hid hms
        have HZB : Hid (bs ≤ W5.heap.size) := by unfold Hid; omega
        have HXN := Lib.hid hxn
        clear hst hN5 hms hro hn1 hn2 hzb hz5 hbs hx hxn hpg hnn hcell hfr
        go_upto_region 11 with fail
        have hO7 := HST.out.1
        have hg7 := HST.out.2
        have hrow : some g = (Value.slice q1.po q1.no q1.co).ownBlock := by rw [HPG.out]; rfl
        have HS7 := Lib.hid (HS5.out.row hg7 (fun k e => by cases e; omega))
        have hzb7 : bs ≤ W5.heap.size := HZB.out
        have hm7 := ((HMS.out.set (lowN b.objs id) (p := (id, v)) (q := ⟨x.name, vr⟩) HXN.out.symm (HV.out.under HS5.out.below (Nat.le_refl _))).under ((Below.refl w.heap.size W5).grown hg7 HS5.out.below.size (fun k e => by cases e; omega)) (Nat.le_refl _))
        have hN7 := HN5.out.withObjs hg7 hrow (by decide) hO7 hm7
        have hqq : ({ q1 with po := some ⟨g, 0, none⟩, no := q1.no, co := q1.co } : RB) = q1 := by rw [← HPG.out]
        rw [hqq] at hN7
        have HN7 := Lib.hid hN7
        obtain ⟨W7, hW7⟩ : ∃ W7, (((((W5.setCell ⟨g, lowN b.objs id * 6 + 1, none⟩ (.int .i64 vr.k)).setCell ⟨g, lowN b.objs id * 6 + 2, none⟩ (.int .i64 vr.n)).setCell ⟨g, lowN b.objs id * 6 + 3, none⟩ (.string vr.s)).setCell ⟨g, lowN b.objs id * 6 + 4, none⟩ (.slice vr.pl vr.nl vr.cl)).setCell ⟨g, lowN b.objs id * 6 + 5, none⟩ (.slice vr.pm vr.nm vr.cm)) = W7 := ⟨_, rfl⟩
        have hz7 : W7.heap.size = W5.heap.size := by rw [← hW7]; simp
        rw [hW7] at HS7 HN7 ⊢
        clear hW7 hO7 hg7 hrow hm7 hN7 hqq HST k0 k1 k2 k3 k4 k5 m1 m2 m3 m4 m5 c0 c1 c2 c3 c4 e0 e1 e2 e3 e4
        have hCh := changed_any { b with objs := b.objs.set (lowN b.objs id) (id, v) } q1 W7 bs w.heap.size id 2 HS7.out.below.size (by omega) HN7.out HOB.out.seq (by have := HFU.out; show b.seq < _; omega) HOB.out.floor HOB.out.keep (by have := HID.out; unfold maxLen; omega) (by decide) (by have := HOB.out.trail; show (b.trail.length + 1) * 32 ≤ _; omega)
        have HCh := Lib.hid hCh
        have HZ7 := Lib.hid hz7
        clear hCh hz7
        have c0 := HS7.out.box.cell 0 rfl
        have c1 := HS7.out.box.cell 1 rfl
        have c2 := HS7.out.box.cell 2 rfl
        have c3 := HS7.out.box.cell 3 rfl
        have c4 := HS7.out.box.cell 4 rfl
        have s0 := HS7.out.scell
        go_wp2_with (go_at_call 66; refine HCh.out.mono ?_; rintro e w8 ⟨q8, rfl, hN8, hb8⟩; (have HS8 := Lib.hid (HS7.out.go hb8)); (have z0 := HS8.out.zero.cell 0 rfl); (have z1 := HS8.out.zero.cell 1 rfl); (have z2 := HS8.out.zero.cell 2 rfl); (have z3 := HS8.out.zero.cell 3 rfl); (have z4 := HS8.out.zero.cell 4 rfl); (have y0 := HS8.out.zero.frozen 0); (have y1 := HS8.out.zero.frozen 1); (have y2 := HS8.out.zero.frozen 2); (have y3 := HS8.out.zero.frozen 3); (have y4 := HS8.out.zero.frozen 4); dsimp only [RB.zero] at z0 z1 z2 z3 z4)
        have hg9 := grownBy_setB w8 (w.heap.size + 1 + 1 + 1) q8
        have hne9 := hN8.ne (g := w.heap.size + 1 + 1 + 1) (by omega)
        refine bodyPost_ret (v := .tuple #[RB.val q8, .int .i64 0]) (by simp [results, Try.results22, go_sem, z0, z1, z2, z3, z4]) rfl ?_
        exact ⟨q8, by rw [HX.out], by rw [HX.out]; exact ((hN8.kept hg9 hne9.1 hne9.2 HS8.out.below.size (by omega)).mono (by omega) (Nat.le_refl _)), HS8.out.below.grown hg9 HS8.out.below.size (fun a e => by cases e; omega)⟩
end Go.Proofs.Ythgkgjcnmahacaa
end

section
/- slices.Delete of one object out of a slice of the call's own, walked. -/
set_option linter.unusedSimpArgs false
set_option linter.unusedVariables false
namespace Go.Proofs.Ythgkgjcnmahacaa
open Go.RowKit Go.OpenShut

theorem setCells_row (g : Nat) (e : TypeId) : ∀ (vs : List Value) (o : Nat) (w : World) (cur : Array Value), w.heap[g]? = some (.cells cur e (0, 0)) → o + vs.length ≤ cur.size →
    (w.setCells g o vs).heap[g]? = some (.cells (cur.toList.take o ++ vs ++ cur.toList.drop (o + vs.length)).toArray e (0, 0)) ∧ w.grownBy (w.setCells g o vs) (some g)
  | [], o, w, cur, h, hl => ⟨by simpa [World.setCells] using h, World.grownBy.refl w _⟩
  | v :: r, o, w, cur, h, hl => by
    have hl' : o + 1 + r.length ≤ cur.size := by simp at hl; omega
    obtain ⟨h1, h2⟩ := setCells_row g e r (o + 1) (w.setCell ⟨g, o, none⟩ v) (cur.setIfInBounds o v) (heap_setCell_same w g o cur e v h) (by simpa using hl')
    refine ⟨?_, (grownBy_set w g o v).trans h2⟩
    show ((w.setCell ⟨g, o, none⟩ v).setCells g (o + 1) r).heap[g]? = _
    rw [h1]
    congr 3
    rw [Array.toList_setIfInBounds, List.take_add_one, List.take_set_of_le (Nat.le_refl _), List.getElem?_set_self (by simp; omega), List.drop_set_of_lt (by omega)]
    simp [Nat.add_assoc, Nat.add_comm 1]

theorem step_append_runO {P : Program} {ops : Array Oper} {o : Oper} {a : Act} {w : World} {K : Act → World → Prop} {Q : Exit → Act → World → Prop} {E : Prop}
    (hg : o.guard = none) (d x : Operand) (dT sT : TypeId) (hop : o.op = Op.call { callee := Callee.builtin Builtin.append, args := #[d, x], argTypes := #[dT, sT] })
    (v u : Value) (hd : a.eval d = v) (hx : a.eval x = u) {v' : Value} {w' : World} (hr : (Builtin.append_ #[dT, sT] o.type #[v, u]).run P w = .ok v' w') (hK : K (a.put o.dst v') w') :
    if Region.wanted o (yielded ops a.tmps) = true then Oper.wp P o a w K Q else E := by
  have hw : Region.wanted o (yielded ops a.tmps) = true := by simp [Region.wanted, hg]
  rw [if_pos hw]
  unfold Oper.wp
  simp [execOp, hop, resolve, invoke, builtin, hd, hx, hr, Result.andThen]
  exact hK

theorem row_delete {α : Type} {enc : α → List Value} {sz : Nat} (C : Codec enc sz) {cur : List Value} {xs : List α} {n i : Nat} (hn : n = xs.length) (ht : cur.take (n * sz) = cellsOf enc xs) (hi : i < n) (hl : n * sz ≤ cur.length) :
    (cur.take (i * sz) ++ cellsOf enc (xs.drop (i + 1)) ++ cur.drop (i * sz + (cellsOf enc (xs.drop (i + 1))).length)).take (n * sz) = cellsOf enc (xs.take i ++ xs.drop (i + 1) ++ xs.drop (n - 1)) := by
  have h1 : cur.take (i * sz) = cellsOf enc (xs.take i) := by
    rw [← cells_take C, ← ht, List.take_take, Nat.min_eq_left (Nat.mul_le_mul_right _ (by omega))]
  have hd : (cellsOf enc (xs.drop (i + 1))).length = (n - (i + 1)) * sz := by rw [cellsOf_len C, List.length_drop, hn]
  have hk : i * sz + (n - (i + 1)) * sz = (n - 1) * sz := by rw [← Nat.add_mul]; congr 1; omega
  have hns : n * sz = (n - 1) * sz + sz := by
    have : n = n - 1 + 1 := by omega
    rw [this, Nat.add_mul, Nat.one_mul, Nat.add_sub_cancel]
  have h2 : (cur.drop ((n - 1) * sz)).take sz = cellsOf enc (xs.drop (n - 1)) := by
    have e : cellsOf enc xs = cellsOf enc (xs.take (n - 1)) ++ cellsOf enc (xs.drop (n - 1)) := by rw [← cellsOf_append, List.take_append_drop]
    have hl1 : (cellsOf enc (xs.take (n - 1))).length = (n - 1) * sz := by rw [cellsOf_len C, List.length_take]; congr 1; omega
    have e2 : (cellsOf enc xs).drop ((n - 1) * sz) = cellsOf enc (xs.drop (n - 1)) := by rw [e, ← hl1, List.drop_left]
    rw [← e2, ← ht, List.drop_take]
    congr 1
    omega
  rw [hd, hk, cellsOf_append, cellsOf_append, h1, ← h2]
  have hl3 : (cellsOf enc (xs.take i) ++ cellsOf enc (xs.drop (i + 1))).length = (n - 1) * sz := by
    rw [List.length_append, hd, cellsOf_len C, List.length_take, ← Nat.add_mul]
    congr 1; omega
  rw [hns, ← hl3, List.take_length_add_append]

def DelRet (w : World) (base : Nat) (p : Option Addr) (n c : Nat) (ys : List RM) (e : Ending) (w' : World) : Prop :=
  e = .returned (.slice p n c) ∧ Own w' base 46 encM 6 (.slice p n c) ys ∧ w.grownBy w' (Value.slice p n c).ownBlock

theorem oneO : ∀ i z, Try.prog.info? 46 = some i → i.zero = some z → ∀ u ∈ z.cells.toList, u.oneCell' = true := by
  intro i z hi hz
  have h : (Try.prog.info? 46).map (fun i => (i.zero, i.size, i.bytes)) = some (some (.agg #[.string ByteArray.empty, .int .i64 0, .int .i64 0, .string ByteArray.empty, .slice none 0 0, .slice none 0 0]), 6, 96) := by kernel_rfl
  rw [hi] at h
  simp only [Option.map_some, Option.some.injEq, Prod.mk.injEq] at h
  rw [hz] at h
  simp only [Option.some.injEq] at h
  rw [h.1]
  intro u hu
  simp [Value.cells] at hu
  rcases hu with rfl | rfl | rfl | rfl | rfl | rfl <;> rfl

set_option maxRecDepth 100000 in
set_option maxHeartbeats 2000000 in
theorem deleteO_any (w : World) (base : Nat) (p : Option Addr) (n c i : Nat) (xs : List RM) (ho : Own w base 46 encM 6 (.slice p n c) xs) (hb : base ≤ w.heap.size) (hi : i < n) (hlen : n ≤ 1466015503658) :
    Calls Try.prog 68 #[.slice p n c, .int .i64 i, .int .i64 ((i : Int) + 1)] w (DelRet w base p (n - 1) c (xs.take i ++ xs.drop (i + 1))) := by
  obtain ⟨g, cur, rfl, hg, hh, hnx, hnc, hcm, hcs, ht⟩ := ho.row (.inl (by
    obtain ⟨_, _, e, h1, _⟩ := ho.rd codecM
    simp only [Value.slice.injEq] at e
    omega))
  have hcn : cur.toList.length = c * 6 := by simpa using hcs
  have hi0 : (Try.prog.info? 46).map (fun i => (i.zero, i.size, i.bytes)) = some (some (.agg #[.string ByteArray.empty, .int .i64 0, .int .i64 0, .string ByteArray.empty, .slice none 0 0, .slice none 0 0]), 6, 96) := by kernel_rfl
  obtain ⟨i0, hi0, hz0, hzs, hzb⟩ := info_parts hi0
  have hcell : ∀ j, w.cell? ⟨g, j, none⟩ = cur.toList[j]? := fun j => by rw [cell_of_row w g j _ _ _ hh, Array.getElem?_toList]
  have hd : (cellsOf encM (xs.drop (i + 1))).length = (n - (i + 1)) * 6 := by rw [cellsOf_len codecM, List.length_drop, hnx]
  have hcells : ∀ j v, (cellsOf encM (xs.drop (i + 1)))[j]? = some v → w.cell? ⟨g, (i + 1) * 6 + j, none⟩ = some v := fun j v hv => by
    rw [hcell]
    have h1 : (cellsOf encM xs)[(i + 1) * 6 + j]? = some v := by
      have e : cellsOf encM xs = cellsOf encM (xs.take (i + 1)) ++ cellsOf encM (xs.drop (i + 1)) := by rw [← cellsOf_append, List.take_append_drop]
      have hl : (cellsOf encM (xs.take (i + 1))).length = (i + 1) * 6 := by rw [cellsOf_len codecM, List.length_take]; omega
      rw [e, List.getElem?_append_right (by omega), hl]
      simpa using hv
    rw [← ht, List.getElem?_take] at h1
    split at h1
    · exact h1
    · cases h1
  obtain ⟨row1, hrow1⟩ : ∃ r : Array Value, r = (cur.toList.take (i * 6) ++ cellsOf encM (xs.drop (i + 1)) ++ cur.toList.drop (i * 6 + (cellsOf encM (xs.drop (i + 1))).length)).toArray := ⟨_, rfl⟩
  have hr1s : row1.size = c * 6 := by
    rw [hrow1]
    simp only [List.size_toArray, List.length_append, List.length_take, List.length_drop, hd, hcn]
    omega
  have hfin : row1.toList.take (n * 6) = cellsOf encM (xs.take i ++ xs.drop (i + 1) ++ xs.drop (n - 1)) := by
    rw [hrow1]
    exact row_delete codecM hnx ht hi (by omega)
  obtain ⟨W1, hW1⟩ : ∃ W1, w.drew.setCells g (i * 6) (cellsOf encM (xs.drop (i + 1))) = W1 := ⟨_, rfl⟩
  have hrow := setCells_row g 46 (cellsOf encM (xs.drop (i + 1))) (i * 6) w.drew cur hh (by rw [hd]; omega)
  rw [hW1, ← hrow1] at hrow
  have hap : ∀ ty a sc, a = ⟨g, (i + 1) * 6, none⟩ ∨ i + 1 = n → (Builtin.append_ #[32, 32] ty #[.slice (some ⟨g, 0, none⟩) i c, .slice (some a) (n - (i + 1)) sc]).run Try.prog w.drew = .ok (.slice (some ⟨g, 0, none⟩) (n - 1) c) W1 := fun ty a sc ha => by
    have h := run_append_room_cells (P := Try.prog) (w := w.drew) 32 ty 46 i0 Try.underlying32 hi0 g 0 i c a (n - (i + 1)) sc (cellsOf encM (xs.drop (i + 1))) (by rw [hd, hzs]) (fun j u hu => by
        rcases ha with rfl | ha
        · rw [add_eq]
          exact hcells j u hu
        · have := (List.getElem?_eq_some_iff.1 hu).1
          omega) (cellsOf_one codecM _) (by omega)
      (fun j hj => by
        rw [hzs, Nat.zero_add]
        show (w.cell? _).isSome = true
        rw [hcell, List.getElem?_eq_getElem (by omega)]; rfl)
      (fun j hj => by show w.frozen? _ = false; simp [World.frozen?, hh])
    rw [hzs, Nat.zero_add, hW1, show i + (n - (i + 1)) = n - 1 by omega] at h
    exact h
  have hown1 : Own W1 base 46 encM 6 (.slice (some ⟨g, 0, none⟩) n c) (xs.take i ++ xs.drop (i + 1) ++ xs.drop (n - 1)) :=
    Own.ofRow codecM hrow.1 hfin (by simp; omega) hg hnc hcm hr1s
  have hbw1 : w.grownBy W1 (some g) := gb_drew hrow.2
  obtain ⟨w2, hrun, ho2, hg2⟩ := run_clear_own (P := Try.prog) slO oneO codecM W1 0 hown1 (m := n - 1) (by omega) (v := .slice (some ⟨g, (n - 1) * 6, none⟩) (n - (n - 1)) (c - (n - 1))) (by unfold sliced; rw [if_neg (by omega)]; simp [add_eq])
  have hys : (xs.take i ++ xs.drop (i + 1) ++ xs.drop (n - 1)).take (n - 1) = xs.take i ++ xs.drop (i + 1) := by
    have hl : (xs.take i ++ xs.drop (i + 1)).length = n - 1 := by simp; omega
    rw [← hl, List.take_left]
  rw [hys] at ho2
  have HO2 := Lib.hid ho2
  have HB2 : Hid (w.grownBy w2 (some g)) := hbw1.trans hg2
  have hcm2 : c ≤ 9223372036854775807 := by unfold maxLen at hcm; omega
  have hne : ((i : Int) == (i : Int) + 1) = false := by rw [beq_eq_false_iff_ne]; omega
  have hne2 : ¬ ((i : Int) = (i : Int) + 1) := by omega
  have hsh : ∀ W, (Instr.sliceAt 32 (.slice (some ⟨g, 0, none⟩) n c) none (some (.int .i64 i)) none).run Try.prog W = .ok (.slice (some ⟨g, 0, none⟩) i c) W := fun W => run_slice_high (P := Try.prog) slO _ n c i (by omega) W
  obtain ⟨A, hA, hsl⟩ : ∃ A : Addr, (A = ⟨g, (i + 1) * 6, none⟩ ∨ i + 1 = n) ∧ ∀ W, (Instr.sliceAt 32 (.slice (some ⟨g, 0, none⟩) n c) (some (.int .i64 ((i : Int) + 1))) none none).run Try.prog W = .ok (.slice (some A) (n - (i + 1)) (c - (i + 1))) W := by
    have h := fun W => run_slice_low (P := Try.prog) slO (some ⟨g, 0, none⟩) n c (i + 1) (by omega) W
    rw [show ((i + 1 : Nat) : Int) = (i : Int) + 1 by omega] at h
    by_cases e : c = i + 1
    · exact ⟨⟨g, 0, none⟩, .inr (by omega), fun W => by rw [h W]; unfold sliced; rw [if_pos e]⟩
    · exact ⟨⟨g, (i + 1) * 6, none⟩, .inl rfl, fun W => by rw [h W]; unfold sliced; rw [if_neg e]; simp [add_eq]⟩
  have hapA := fun ty => hap ty A (c - (i + 1)) hA
  clear hap hA
  clear ho hh hcn hcs ht hnx hi0 hz0 hzs hzb hcell hd hcells hrow1 hr1s hfin hW1 hrow hown1 hbw1 ho2 hg2 hys hcm
  have htn : ((i : Int) + 1).toNat = i + 1 := by omega
  have hnn : ((n - 1 : Nat) : Int) = (n : Int) - 1 := by omega
  have hb1 : (0 : Int) ≤ (i : Int) + 1 := by omega
  go_enter Try.func68, Try.ntmps68
  go_wp2_with fail
  go_region_law (refine step_append_runO rfl _ _ 32 32 rfl _ _ (by simp [Act.eval, Act.put]) (by simp [Act.eval, Act.put]) (hapA _) ?_)
  clear hapA hsl hsh
  have hsl2 : ∀ W, (Instr.sliceAt 32 (.slice (some ⟨g, 0, none⟩) (n - 1) c) (some (.int .i64 ((n - 1 : Nat) : Int))) (some (.int .i64 n)) none).run Try.prog W = .ok (.slice (some ⟨g, (n - 1) * 6, none⟩) (n - (n - 1)) (c - (n - 1))) W := fun W => by
    obtain ⟨ht, i1, z, hi1, hz, hs1, hs2, hzs⟩ := slO
    have he : Try.prog.elem 32 = 46 := by simp [Program.elem, ht]
    have ht' : Try.prog.underlying 32 = some (.slice (Try.prog.elem 32)) := by rw [he]; exact ht
    rw [run_sliceAt_slice _ _ _ _ _ _ ht', run_slice_lh W 32 _ (n - 1) c ht' .i64 .i64 ((n - 1 : Nat) : Int) (n : Int) (by omega) (by omega) (by omega), he]
    have hcn : ¬ (c = n - 1) := by omega
    simp [sizeOf, typeInfo, hi1, hs1, Result.andThen, sliced, add_eq, hcn]
  go_wp2_with fail
  go_ret
  exact ⟨rfl, HO2.out, HB2.out⟩
end Go.Proofs.Ythgkgjcnmahacaa
end

section
/- store.Drop, walked. -/
set_option linter.unusedSimpArgs false
set_option linter.unusedVariables false
namespace Go.Proofs.Ythgkgjcnmahacaa
open Go.RowKit Go.OpenShut

/-- What Drop answers: the box, and why not. -/
def dropB (b : BoxD) (id : ByteArray) : BoxD × Int :=
  if isAt b.objs id = false then (BoxD.zero, 81) else if 9007199254740991 ≤ b.seq then (BoxD.zero, 180) else (chgB b (b.objs.take (lowN b.objs id) ++ b.objs.drop (lowN b.objs id + 1)) id 3, 0)

/-- A box and what is answered, in blocks of their own. -/
structure TwoB (w W : World) (r : RB) : Prop where
  box : BoxAt W w.heap.size r
  zero : BoxAt W (w.heap.size + 1) RB.zero
  below : Below w.heap.size w W
section
variable {w W W' : World} {r : RB} (h : TwoB w W r)
include h
theorem TwoB.size : w.heap.size + 1 < W.heap.size := h.zero.lt
theorem TwoB.go (hb : Below W.heap.size W W') : TwoB w W' r := ⟨h.box.under hb h.box.lt, h.zero.under hb h.size, h.below.trans (hb.mono h.below.size)⟩
theorem TwoB.setBox (q : RB) (hq : BoxAt W' w.heap.size q) (hg : W.grownBy W' (some w.heap.size)) : TwoB w W' q := ⟨hq, h.zero.kept hg (by omega), h.below.grown hg h.below.size (fun a e => by cases e; exact Nat.le_refl _)⟩
theorem TwoB.row {row : Option Nat} (hg : W.grownBy W' row) (hr : ∀ k, row = some k → w.heap.size + 1 < k) : TwoB w W' r := by
  have hz := h.size
  have hb : ∀ k, k ≤ w.heap.size + 1 → W'.heap[k]? = W.heap[k]? := fun k hk => hg.block k (by omega) (fun e => by have := hr k e.symm; omega)
  exact ⟨(hb _ (by omega)).trans h.box, (hb _ (by omega)).trans h.zero, h.below.grown hg h.below.size (fun a e => by have := hr a e; omega)⟩
end
theorem TwoB.start (w : World) (r : RB) : TwoB w ((w.alloc (.cells #[.slice r.po r.no r.co, .slice r.pt r.nt r.ct, .int .i64 r.sq, .int .i64 r.fl, .int .i64 r.kp] 35)).alloc (.cells #[.slice none 0 0, .slice none 0 0, .int .i64 0, .int .i64 0, .int .i64 0] 35)) r := ⟨heap_alloc_lt (by simp) (heap_alloc_at rfl), heap_alloc_at (by simp), below2 _ _ _⟩

set_option maxRecDepth 200000 in
set_option maxHeartbeats 8000000 in
theorem drop_any (b : BoxD) (r : RB) (id : ByteArray) (w : World) (hb : BoxOf w w.heap.size b r) (hr : Rising b.objs) (ob : b.Ok) (hid : id.size ≤ 140737488351232) :
    Calls Try.prog 23 #[r.val, .string id] w (BoxErr w (dropB b id)) := by
  have hS := TwoB.start w r
  have HBX := Lib.hid hb
  have HR := Lib.hid hr
  have HOB := Lib.hid ob
  have HID := Lib.hid hid
  have HSQ : Hid (b.seq = r.sq ∧ b.objs.length = r.no) := ⟨hb.seq, hb.objs.nlen⟩
  clear hb hr ob hid
  go_enter Try.func23, Try.ntmps23
  go_upto_region 1 with fail
  obtain ⟨W0, hW0⟩ : ∃ W0, ((w.alloc (.cells #[.slice r.po r.no r.co, .slice r.pt r.nt r.ct, .int .i64 r.sq, .int .i64 r.fl, .int .i64 r.kp] 35)).alloc (.cells #[.slice none 0 0, .slice none 0 0, .int .i64 0, .int .i64 0, .int .i64 0] 35)) = W0 := ⟨_, rfl⟩
  rw [hW0] at hS ⊢
  clear hW0
  have HS := Lib.hid hS
  have hz0 := hS.size
  have c0 := hS.box.cell 0 rfl
  have c1 := hS.box.cell 1 rfl
  have c2 := hS.box.cell 2 rfl
  have c3 := hS.box.cell 3 rfl
  have c4 := hS.box.cell 4 rfl
  have HPL := Lib.hid (placeO_any b r id W0 (HBX.out.under hS.below hS.below.size) HR.out HOB.out)
  clear hS
  go_upto_region 2 with (go_at_call 59; refine HPL.out.mono ?_; rintro e w1 ⟨rfl, hb1⟩)
  have HS1 := Lib.hid (HS.out.go hb1)
  clear HPL HS hb1 c0 c1 c2 c3 c4 hz0
  have hz1 := HS1.out.size
  have c0 := HS1.out.box.cell 0 rfl
  have c1 := HS1.out.box.cell 1 rfl
  have c2 := HS1.out.box.cell 2 rfl
  have c3 := HS1.out.box.cell 3 rfl
  have c4 := HS1.out.box.cell 4 rfl
  have z0 := HS1.out.zero.cell 0 rfl
  have z1 := HS1.out.zero.cell 1 rfl
  have z2 := HS1.out.zero.cell 2 rfl
  have z3 := HS1.out.zero.cell 3 rfl
  have z4 := HS1.out.zero.cell 4 rfl
  have y0 := HS1.out.zero.frozen 0
  have y1 := HS1.out.zero.frozen 1
  have y2 := HS1.out.zero.frozen 2
  have y3 := HS1.out.zero.frozen 3
  have y4 := HS1.out.zero.frozen 4
  dsimp only [RB.zero] at z0 z1 z2 z3 z4
  cases hat : isAt b.objs id with
  | false =>
    have HX : Hid (dropB b id = (BoxD.zero, 81)) := by unfold Hid dropB; rw [if_pos hat]
    clear hat
    go_wp2_with fail
    refine bodyPost_ret (v := .tuple #[RB.val RB.zero, .int .i64 81]) (by simp [results, Try.results23, go_sem, RB.zero, z0, z1, z2, z3, z4]) rfl ?_
    exact ⟨RB.zero, by rw [HX.out], by rw [HX.out]; exact NewBox.zero _ _ _, HS1.out.below.grown (grownBy_setB _ _ RB.zero) HS1.out.below.size (fun a e => by cases e; omega)⟩
  | true =>
    obtain ⟨p, hp, hpi, hpo⟩ := isAt_some hat
    have hi := (List.getElem?_eq_some_iff.1 hp).1
    have HAT := Lib.hid hat
    have HILT : Hid (lowN b.objs id < b.objs.length) := hi
    have HP := Lib.hid hp
    clear hat hp hpi hpo hi
    by_cases hfull : 9007199254740991 ≤ b.seq
    · have HX : Hid (dropB b id = (BoxD.zero, 180)) := by unfold Hid dropB; rw [if_neg (by rw [HAT.out]; decide), if_pos hfull]
      have hq : decide ((9007199254740991 : Int) ≤ r.sq) = true := by have := HSQ.out.1; simp; omega
      clear hfull
      go_wp2_with fail
      refine bodyPost_ret (v := .tuple #[RB.val RB.zero, .int .i64 180]) (by simp [results, Try.results23, go_sem, RB.zero, z0, z1, z2, z3, z4]) rfl ?_
      exact ⟨RB.zero, by rw [HX.out], by rw [HX.out]; exact NewBox.zero _ _ _, HS1.out.below.grown (grownBy_setB _ _ RB.zero) HS1.out.below.size (fun a e => by cases e; omega)⟩
    · have HX : Hid (dropB b id = (chgB b (b.objs.take (lowN b.objs id) ++ b.objs.drop (lowN b.objs id + 1)) id 3, 0)) := by unfold Hid dropB; rw [if_neg (by rw [HAT.out]; decide), if_neg hfull]
      have hq : decide ((9007199254740991 : Int) ≤ r.sq) = false := by have := HSQ.out.1; simp; omega
      have HFU := Lib.hid hfull
      clear hfull
      clear z0 z1 z2 z3 z4 y0 y1 y2 y3 y4
      go_upto_region 7 with (go_at_call 63; refine (own_any b r _ w.heap.size HS1.out.below.size (HBX.out.under HS1.out.below (Nat.le_refl _)) HOB.out).mono ?_; rintro e w4 ⟨q1, rfl, hN1, hb4⟩; (have HS4 := Lib.hid (HS1.out.go hb4)); clear c0 c1 c2 c3 c4; (have c0 := HS4.out.box.cell 0 rfl); (have c1 := HS4.out.box.cell 1 rfl); (have c2 := HS4.out.box.cell 2 rfl); (have c3 := HS4.out.box.cell 3 rfl); (have c4 := HS4.out.box.cell 4 rfl); (have x0 := HS4.out.box.frozen 0); (have x1 := HS4.out.box.frozen 1); (have x2 := HS4.out.box.frozen 2); (have x3 := HS4.out.box.frozen 3); (have x4 := HS4.out.box.frozen 4))
      have hg5 := grownBy_setB w4 w.heap.size q1
      have HS5 := Lib.hid (HS4.out.setBox q1 (HS4.out.box.stored q1) hg5)
      have hne5 := hN1.ne (g := w.heap.size) (by omega)
      have hN5 := hN1.kept hg5 hne5.1 hne5.2 HS4.out.below.size (Nat.le_refl _)
      obtain ⟨W5, hW5⟩ : ∃ W5, (((((w4.setCell ⟨w.heap.size, 0, none⟩ (.slice q1.po q1.no q1.co)).setCell ⟨w.heap.size, 1, none⟩ (.slice q1.pt q1.nt q1.ct)).setCell ⟨w.heap.size, 2, none⟩ (.int .i64 q1.sq)).setCell ⟨w.heap.size, 3, none⟩ (.int .i64 q1.fl)).setCell ⟨w.heap.size, 4, none⟩ (.int .i64 q1.kp)) = W5 := ⟨_, rfl⟩
      have hz5 : w4.heap.size = W5.heap.size := by rw [← hW5]; simp
      rw [hW5] at HS5 hN5 ⊢
      have hzb := hb4.size
      clear hW5 hg5 hne5 hN1 hb4 HS4 c0 c1 c2 c3 c4 x0 x1 x2 x3 x4
      obtain ⟨bs, hbs⟩ : ∃ n, w1.heap.size = n := ⟨_, rfl⟩
      rw [hbs] at hN5 hz1 hzb
      obtain ⟨ros, hro, hms⟩ := hN5.objs
      have hn1 := hms.len
      have hn2 := rd_nlen (hro.rd codecM)
      have hlenz := HOB.out.objs
      have c0 := HS5.out.box.cell 0 rfl
      have c1 := HS5.out.box.cell 1 rfl
      have c2 := HS5.out.box.cell 2 rfl
      have c3 := HS5.out.box.cell 3 rfl
      have c4 := HS5.out.box.cell 4 rfl
      have x0 := HS5.out.box.frozen 0
      have hDel := deleteO_any W5 bs q1.po q1.no q1.co (lowN b.objs id) ros hro (by omega) (by have := HILT.out; omega) (by omega)
      have hrowb : (Value.slice q1.po (q1.no - 1) q1.co).ownBlock = (Value.slice q1.po q1.no q1.co).ownBlock := by cases q1.po <;> rfl
      unfold DelRet at hDel
      rw [hrowb] at hDel
      have HDel := Lib.hid hDel
      clear hrowb
      have HN5 := Lib.hid hN5
      have HMS := Lib.hid hms
      have HRO := Lib.hid hro
      have HZB : Hid (bs ≤ W5.heap.size) := by unfold Hid; omega
      have hnn : (lowN b.objs id : Int) ≤ 1466015503658 := by have := HILT.out; omega
      have hnn0 : (0 : Int) ≤ (lowN b.objs id : Int) := Int.natCast_nonneg _
      clear hDel hN5 hms hro hn1 hn2 hlenz hzb hz5 hbs
      go_upto_region 8 with (go_at_call 68; refine HDel.out.mono ?_; rintro e w6 ⟨rfl, ho6, hg6⟩; (have HS6' := Lib.hid (HS5.out.row hg6 (fun k e => by have := (HRO.out.lt k e).1; omega))); clear c0 c1 c2 c3 c4 x0; (have c0 := HS6'.out.box.cell 0 rfl); (have c1 := HS6'.out.box.cell 1 rfl); (have c2 := HS6'.out.box.cell 2 rfl); (have c3 := HS6'.out.box.cell 3 rfl); (have c4 := HS6'.out.box.cell 4 rfl); (have x0 := HS6'.out.box.frozen 0); (have x1 := HS6'.out.box.frozen 1); (have x2 := HS6'.out.box.frozen 2); (have x3 := HS6'.out.box.frozen 3); (have x4 := HS6'.out.box.frozen 4))
      have hg7 := grownBy_set w6 w.heap.size 0 (.slice q1.po (q1.no - 1) q1.co)
      have hB7 := HS6'.out.box.set0 q1.po (q1.no - 1) q1.co
      have HS7 := Lib.hid (HS6'.out.setBox _ hB7 hg7)
      obtain ⟨W7, hW7⟩ : ∃ W7, w6.setCell ⟨w.heap.size, 0, none⟩ (.slice q1.po (q1.no - 1) q1.co) = W7 := ⟨_, rfl⟩
      rw [hW7] at HS7 hg7 ⊢
      have hzb7 : bs ≤ W7.heap.size := by have h1 := hg6.size; have h2 := hg7.size; have := HZB.out; omega
      have hb6 : Below w.heap.size W5 w6 := (Below.refl _ _).grown hg6 HS5.out.below.size (fun k e => by have := (HRO.out.lt k e).1; omega)
      have hN6 := HN5.out.withObjs hg6 rfl (by decide) ho6 ((HMS.out.delete (lowN b.objs id)).under hb6 (Nat.le_refl _))
      have hne6 := hN6.ne (g := w.heap.size) (by omega)
      have HN7 := Lib.hid (hN6.kept hg7 hne6.1 hne6.2 (by have := HS6'.out.below.size; omega) (Nat.le_refl _))
      clear hW7 hg7 hB7 hb6 hN6 hne6 ho6 hg6 c0 c1 c2 c3 c4 x0 x1 x2 x3 x4 HS6' HDel
      have hz7 := HS7.out.size
      have hCh := changed_any { b with objs := b.objs.take (lowN b.objs id) ++ b.objs.drop (lowN b.objs id + 1) } ⟨q1.po, q1.no - 1, q1.co, q1.pt, q1.nt, q1.ct, q1.sq, q1.fl, q1.kp⟩ W7 bs w.heap.size id 3 HS7.out.below.size hzb7 HN7.out HOB.out.seq (by have := HFU.out; show b.seq < _; omega) HOB.out.floor HOB.out.keep (by have := HID.out; unfold maxLen; omega) (by decide) (by have := HOB.out.trail; show (b.trail.length + 1) * 32 ≤ _; omega)
      have HCh := Lib.hid hCh
      clear hCh
      have c0 := HS7.out.box.cell 0 rfl
      have c1 := HS7.out.box.cell 1 rfl
      have c2 := HS7.out.box.cell 2 rfl
      have c3 := HS7.out.box.cell 3 rfl
      have c4 := HS7.out.box.cell 4 rfl
      dsimp only at c0 c1 c2 c3 c4
      go_wp2_with (go_at_call 66; refine HCh.out.mono ?_; rintro e w8 ⟨q8, rfl, hN8, hb8⟩; (have HS8 := Lib.hid (HS7.out.go hb8)); (have z0 := HS8.out.zero.cell 0 rfl); (have z1 := HS8.out.zero.cell 1 rfl); (have z2 := HS8.out.zero.cell 2 rfl); (have z3 := HS8.out.zero.cell 3 rfl); (have z4 := HS8.out.zero.cell 4 rfl); (have y0 := HS8.out.zero.frozen 0); (have y1 := HS8.out.zero.frozen 1); (have y2 := HS8.out.zero.frozen 2); (have y3 := HS8.out.zero.frozen 3); (have y4 := HS8.out.zero.frozen 4); dsimp only [RB.zero] at z0 z1 z2 z3 z4)
      have hz8 := HS8.out.size
      have hg9 := grownBy_setB w8 (w.heap.size + 1) q8
      have hne9 := hN8.ne (g := w.heap.size + 1) (by omega)
      refine bodyPost_ret (v := .tuple #[RB.val q8, .int .i64 0]) (by simp [results, Try.results23, go_sem, z0, z1, z2, z3, z4]) rfl ?_
      exact ⟨q8, by rw [HX.out], by rw [HX.out]; exact ((hN8.kept hg9 hne9.1 hne9.2 HS8.out.below.size (by omega)).mono (by omega) (Nat.le_refl _)), HS8.out.below.grown hg9 HS8.out.below.size (fun a e => by cases e; omega)⟩
end Go.Proofs.Ythgkgjcnmahacaa
end
