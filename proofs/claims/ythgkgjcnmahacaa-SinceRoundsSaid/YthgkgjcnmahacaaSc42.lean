import Derived.Test.YthgkgjcnmahacaaSc41
/- all: what changed, asked again and again, walked; sub. -/
set_option linter.unusedSimpArgs false
set_option linter.unusedVariables false
namespace Go.Proofs.Ythgkgjcnmahacaa
open Go.RowKit Go.OpenShut

def AllRet (w : World) (b : BoxD) (s0 : Int) (e : Ending) (w' : World) : Prop :=
  ∃ rc m c g, e = .returned (.tuple #[RC.val rc, .bool true]) ∧ NewChg w' w.heap.size ⟨m, c, g, b.seq, false⟩ rc ∧ AllI b.trail b.seq s0 b.seq m c g ∧ (m.length ≤ 1001000 ∧ c.length ≤ 1001000 ∧ g.length ≤ 1001000) ∧ Below w.heap.size w w'
/-- What is known between rounds. -/
structure AllJ (b : BoxD) (s0 : Int) (k : Nat) (q : RC) (m c g : List ByteArray) : Prop where
  all : AllI b.trail b.seq s0 q.toN m c g
  lm : m.length ≤ k * 1000
  lc : c.length ≤ k * 1000
  lg : g.length ≤ k * 1000
  cnt : q.more = true → k + behind b.trail q.toN ≤ b.trail.length
  fin : q.more = false → q.toN = b.seq
theorem AllJ.step {b : BoxD} {s0 : Int} {k : Nat} {q : RC} {m c g : List ByteArray} {d : ChD} {most : Int} (h : AllJ b s0 k q m c g) (hq : q.more = true) (hr : rightB b.trail b.floor b.seq = true) (hl : b.trail.length ≤ 1000) (hd : Told b.trail b.seq q.toN most d) {q' : RC} (ht : d.toN = q'.toN) (hm : d.more = q'.more) : AllJ b s0 (k + 1) q' (m ++ d.made) (c ++ d.chgd) (g ++ d.gone) := by
  have h1 := hd.len
  have h2 := h.lm
  have h3 := h.lc
  have h4 := h.lg
  refine ⟨by rw [← ht]; exact h.all.step hr hd, by rw [List.length_append]; omega, by rw [List.length_append]; omega, by rw [List.length_append]; omega, fun e => ?_, fun e => ?_⟩
  · obtain ⟨h5, h6, x, hx, hx1, hx2⟩ := hd.some (hm.trans e)
    have h7 := behind_less (l := b.trail) (s := q.toN) (s' := d.toN) (by omega) ⟨x, hx, hx1⟩
    have h8 := h.cnt hq
    rw [← ht]
    omega
  · rw [← ht]
    exact hd.all (hm.trans e)

theorem AllS.fin {w W : World} {r : RB} {q : RC} {m c g : List ByteArray} (h : AllS w W r q m c g) :
    ChAt (((((W.setCell ⟨w.heap.size + 1, 0, none⟩ (.slice q.pa q.na q.ca)).setCell ⟨w.heap.size + 1, 1, none⟩ (.slice q.pb q.nb q.cb)).setCell ⟨w.heap.size + 1, 2, none⟩ (.slice q.pc q.nc q.cc)).setCell ⟨w.heap.size + 1, 3, none⟩ (.int .i64 q.toN)).setCell ⟨w.heap.size + 1, 4, none⟩ (.bool q.more)).drew (w.heap.size + 1) q ∧
    NewChg (((((W.setCell ⟨w.heap.size + 1, 0, none⟩ (.slice q.pa q.na q.ca)).setCell ⟨w.heap.size + 1, 1, none⟩ (.slice q.pb q.nb q.cb)).setCell ⟨w.heap.size + 1, 2, none⟩ (.slice q.pc q.nc q.cc)).setCell ⟨w.heap.size + 1, 3, none⟩ (.int .i64 q.toN)).setCell ⟨w.heap.size + 1, 4, none⟩ (.bool q.more)).drew w.heap.size ⟨m, c, g, q.toN, q.more⟩ q ∧
    Below w.heap.size w (((((W.setCell ⟨w.heap.size + 1, 0, none⟩ (.slice q.pa q.na q.ca)).setCell ⟨w.heap.size + 1, 1, none⟩ (.slice q.pb q.nb q.cb)).setCell ⟨w.heap.size + 1, 2, none⟩ (.slice q.pc q.nc q.cc)).setCell ⟨w.heap.size + 1, 3, none⟩ (.int .i64 q.toN)).setCell ⟨w.heap.size + 1, 4, none⟩ (.bool q.more)).drew := by
  obtain ⟨W8, hW8⟩ : ∃ W8, (((((W.setCell ⟨w.heap.size + 1, 0, none⟩ (.slice q.pa q.na q.ca)).setCell ⟨w.heap.size + 1, 1, none⟩ (.slice q.pb q.nb q.cb)).setCell ⟨w.heap.size + 1, 2, none⟩ (.slice q.pc q.nc q.cc)).setCell ⟨w.heap.size + 1, 3, none⟩ (.int .i64 q.toN)).setCell ⟨w.heap.size + 1, 4, none⟩ (.bool q.more)) = W8 := ⟨_, rfl⟩
  have hz8 : ChAt W8 (w.heap.size + 1) q := by rw [← hW8]; exact h.zero.stored q
  have hg5 : W.grownBy W8 (some (w.heap.size + 1)) := by rw [← hW8]; exact grown_cells _ _ _ _ _ _ _
  rw [hW8]
  clear hW8
  have hz := h.below.size
  have ho8 := h.own.same (fun k h1 h2 => hg5.block k h2 (fun e => by simp at e; omega))
  have hb8 := h.below.grown hg5 (by omega) (fun k e => by simp at e; omega)
  exact ⟨hz8, ⟨(ho8.oa.same (fun _ _ => rfl)).mono (by omega), (ho8.ob.same (fun _ _ => rfl)).mono (by omega), (ho8.oc.same (fun _ _ => rfl)).mono (by omega), rfl, rfl⟩, hb8.drew⟩
set_option maxRecDepth 200000 in
set_option maxHeartbeats 8000000 in
theorem all_any (w : World) (b : BoxD) (r : RB) (s0 most : Int) (hb : BoxOf w w.heap.size b r) (ob : b.Ok) (hR : RightBx b) (hl : b.trail.length ≤ 1000) (h1 : b.floor ≤ s0) (h2 : s0 ≤ b.seq) (hwm : (Lit.int .i64 most).wf = true) :
    Calls Try.prog 45 #[r.val, .int .i64 s0, .int .i64 most] w (AllRet w b s0) := by
  have hS := AllS.start w r s0
  have hnt := hb.trail.nlen
  have hsq := hb.seq
  have HBX := Lib.hid hb
  have HOB := Lib.hid ob
  have HWM := Lib.hid hwm
  have HRT : Hid (rightB b.trail b.floor b.seq = true ∧ b.trail.length ≤ 1000 ∧ b.floor ≤ s0 ∧ r.nt = b.trail.length ∧ b.seq = r.sq) := ⟨hR.2.2.2.2.1, hl, h1, hnt.symm, hsq⟩
  have HJ0 : Hid (AllJ b s0 0 ⟨none, 0, 0, none, 0, 0, none, 0, 0, s0, true⟩ [] [] []) := ⟨AllI.start hR.2.2.2.2.1 h2, by simp, by simp, by simp, fun _ => by simpa using behind_le b.trail s0, fun h => by simp at h⟩
  clear hb ob hR hl h1 h2 hwm hnt hsq
  go_enter Try.func45, Try.ntmps45
  go_upto_region 2 with fail
  obtain ⟨W0, hW0⟩ : ∃ W, (((w.alloc r.obj).alloc RC.zero.obj).alloc (RC.obj ⟨none, 0, 0, none, 0, 0, none, 0, 0, s0, true⟩)) = W := ⟨_, rfl⟩
  rw [hW0] at hS
  dsimp only [RB.obj, RC.obj, RC.zero] at hW0
  rw [hW0]
  have HS0 := Lib.hid hS
  clear hW0 hS
  go_wp2_with fail
  go_loopw [9] (fun i wr => ∃ (k : Nat) (q : RC) (m c g : List ByteArray), i = .int .i64 (k : Int) ∧ k ≤ b.trail.length + 1 ∧ Hid (AllS w wr r q m c g) ∧ Hid (AllJ b s0 k q m c g)) (fun i _ => b.trail.length + 1 - (intOf i).toNat)
  case atStart => exact ⟨0, _, _, _, _, rfl, Nat.zero_le _, HS0.out, HJ0.out⟩
  case round =>
    obtain ⟨k, ⟨pa, na, ca, pb, nb, cb, pc, nc, cc, tt, mm⟩, m, c, g, rfl, hk, hs, hj⟩ := hrel
    clear HS0 HJ0
    have zb := hs.out.box.lt
    have zz := hs.out.zero.lt
    have zo := hs.out.out.lt
    have c0 := hs.out.box.cell 0 rfl
    have c1 := hs.out.box.cell 1 rfl
    have c2 := hs.out.box.cell 2 rfl
    have c3 := hs.out.box.cell 3 rfl
    have c4 := hs.out.box.cell 4 rfl
    have o0 := hs.out.out.cell 0 rfl
    have o1 := hs.out.out.cell 1 rfl
    have o2 := hs.out.out.cell 2 rfl
    have o3 := hs.out.out.cell 3 rfl
    have o4 := hs.out.out.cell 4 rfl
    dsimp only at o0 o1 o2 o3 o4
    cases mm with
    | true =>
      have hkL := hj.out.cnt rfl
      have hkn : k ≤ b.trail.length := by omega
      have HN : Hid (¬ (tt < b.floor ∨ b.seq < tt)) := by
        have h1 := hj.out.all.ge
        have h2 := hj.out.all.le
        have h3 := HRT.out.2.2.1
        dsimp only at h1 h2
        unfold Hid
        omega
      go_upto_region 6 with (go_at_call 42; refine (changes_any b r tt most _ (HBX.out.under hs.out.below hs.out.below.size) HOB.out HWM.out).mono ?_; rintro e w3 ⟨h1, hb1⟩; rw [if_neg HN.out] at h1; obtain ⟨ys, r1, hys, rfl, hn⟩ := h1; go_frame)
      have hM := hs.out.mid hb1 hn
      have hT := told_ok (most := most) HRT.out.1 hys hj.out.all.le
      obtain ⟨d, hd⟩ : ∃ d, sncD b.seq ys most = d := ⟨_, rfl⟩
      try dsimp only at hT
      rw [hd] at hM hT
      obtain ⟨g1, hg1⟩ : ∃ g, w3.heap.size = g := ⟨_, rfl⟩
      obtain ⟨W3, hW3⟩ : ∃ W, w3.alloc r1.obj = W := ⟨_, rfl⟩
      rw [hg1, hW3] at hM
      dsimp only [RC.obj] at hW3
      rw [hW3, hg1]
      obtain ⟨pa1, na1, ca1, pb1, nb1, cb1, pc1, nc1, cc1, t1, m1⟩ := r1
      have hto : d.toN = t1 := hM.ls.ch.toN
      have hmo : d.more = m1 := hM.ls.ch.more
      have l1 : na1 = d.made.length := by obtain ⟨p, c, hv, _, _⟩ := hM.ls.ch.made.len; simp at hv; exact hv.2.1
      have l2 : nb1 = d.chgd.length := by obtain ⟨p, c, hv, _, _⟩ := hM.ls.ch.chgd.len; simp at hv; exact hv.2.1
      have l3 : nc1 = d.gone.length := by obtain ⟨p, c, hv, _, _⟩ := hM.ls.ch.gone.len; simp at hv; exact hv.2.1
      have hlen := hT.len
      have hL := HRT.out.2.1
      have hge : tt ≤ t1 := by rw [← hto]; exact hT.ge
      have HM := Lib.hid hM
      have HT := Lib.hid hT
      have HTO : Hid (d.toN = t1 ∧ d.more = m1) := ⟨hto, hmo⟩
      have e2 : decide (r.nt < k) = false := by have := HRT.out.2.2.2.1; simp; omega
      have e3 : decide (t1 < tt) = false := by simpa using hge
      have hs1 : na1 + nb1 + nc1 ≤ 1000 := by omega
      have HSUM : Hid (m1 = true → ((na1 : Int) + (nb1 : Int) + (nc1 : Int)) = most) := fun e => by
        have := (hT.some (hmo.trans e)).2.1
        rw [l1, l2, l3]
        omega
      have HLN : Hid (m.length ≤ k * 1000 ∧ c.length ≤ k * 1000 ∧ g.length ≤ k * 1000 ∧ k ≤ 1000 ∧ d.made.length ≤ 1000 ∧ d.chgd.length ≤ 1000 ∧ d.gone.length ≤ 1000) := ⟨hj.out.lm, hj.out.lc, hj.out.lg, by omega, by omega, by omega, by omega⟩
      clear hW3 hg1 hb1 hn hys hd hM hT hto hmo l1 l2 l3 hlen hL hge c0 c1 c2 c3 c4 o0 o1 o2 o3 o4 zb zz zo HN
      have zb := HM.out.cs.box.lt
      have zo := HM.out.cs.out.lt
      have zc := HM.out.cs.c.lt
      have c0 := HM.out.cs.box.cell 0 rfl
      have c1 := HM.out.cs.box.cell 1 rfl
      have c2 := HM.out.cs.box.cell 2 rfl
      have c3 := HM.out.cs.box.cell 3 rfl
      have c4 := HM.out.cs.box.cell 4 rfl
      have o0 := HM.out.cs.out.cell 0 rfl
      have o1 := HM.out.cs.out.cell 1 rfl
      have o2 := HM.out.cs.out.cell 2 rfl
      have o3 := HM.out.cs.out.cell 3 rfl
      have o4 := HM.out.cs.out.cell 4 rfl
      have d0 := HM.out.cs.c.cell 0 rfl
      have d1 := HM.out.cs.c.cell 1 rfl
      have d2 := HM.out.cs.c.cell 2 rfl
      have d3 := HM.out.cs.c.cell 3 rfl
      have d4 := HM.out.cs.c.cell 4 rfl
      try dsimp only at o0 o1 o2 o3 o4 d0 d1 d2 d3 d4
      have hm1 : m1 = false ∨ (m1 = true ∧ (((na1 : Int) + (nb1 : Int) + (nc1 : Int)) != most) = false) := by
        cases m1 with
        | false => exact .inl rfl
        | true => exact .inr ⟨rfl, by rw [HSUM.out rfl]; simp⟩
      have k1 : Hid (m.length + d.made.length ≤ maxLen ∧ (m.length + d.made.length) * 16 ≤ 140737488355328) := by have := HLN.out; unfold Hid maxLen; omega
      have k2 : Hid (c.length + d.chgd.length ≤ maxLen ∧ (c.length + d.chgd.length) * 16 ≤ 140737488355328) := by have := HLN.out; unfold Hid maxLen; omega
      have k3 : Hid (g.length + d.gone.length ≤ maxLen ∧ (g.length + d.gone.length) * 16 ≤ 140737488355328) := by have := HLN.out; unfold Hid maxLen; omega
      have hk9 : k < 4398046510976 := by have := HLN.out.2.2.2.1; omega
      rcases hm1 with hm1 | ⟨hm1, e1⟩
      all_goals
        subst hm1
        go_upto_region 9 with (at_builtin; refine wpList_append_rd slS codecS _ rfl _ _ rfl rfl rfl HM.out.ls.own.oa (HM.out.ls.ch.made.rd codecS) k1.out.1 k1.out.2 (by omega) ?_; intro v5 w5 ho5 hg5 hat5; (obtain ⟨p5, n5, c5, rfl⟩ : ∃ p n c, v5 = Value.slice p n c := (by obtain ⟨p, c, hv, h1, h2⟩ := ho5.len; exact ⟨p, _, c, hv⟩)); (have hC5 := HM.out.grow hg5 (.inl rfl)); (have b0 := hC5.out.cell 0 (u := .slice pa na ca) rfl); (have x0 := hC5.out.frozen 0))
        have hM5 := HM.out.app1 ho5 hg5 (hat5.imp id (fun h k e => by rw [h] at e; cases e; exact Nat.le_refl _))
        obtain ⟨W5, hW5⟩ : ∃ W, w5.setCell ⟨w.heap.size + 2, 0, none⟩ (.slice p5 n5 c5) = W := ⟨_, rfl⟩
        rw [hW5] at hM5 ⊢
        have HM5 := Lib.hid hM5
        clear hW5 hM5 ho5 hg5 hat5 hC5 b0 x0 c0 c1 c2 c3 c4 o0 o1 o2 o3 o4 d0 d1 d2 d3 d4 HM zb zo zc
        have zo := HM5.out.cs.out.lt
        have zc := HM5.out.cs.c.lt
        have o0 := HM5.out.cs.out.cell 0 rfl
        have o1 := HM5.out.cs.out.cell 1 rfl
        have o2 := HM5.out.cs.out.cell 2 rfl
        have o3 := HM5.out.cs.out.cell 3 rfl
        have o4 := HM5.out.cs.out.cell 4 rfl
        have d0 := HM5.out.cs.c.cell 0 rfl
        have d1 := HM5.out.cs.c.cell 1 rfl
        have d2 := HM5.out.cs.c.cell 2 rfl
        have d3 := HM5.out.cs.c.cell 3 rfl
        have d4 := HM5.out.cs.c.cell 4 rfl
        go_upto_region 10 with (at_builtin; refine wpList_append_rd slS codecS _ rfl _ _ rfl rfl rfl HM5.out.ls.own.ob (HM5.out.ls.ch.chgd.rd codecS) k2.out.1 k2.out.2 (by omega) ?_; intro v6 w6 ho6 hg6 hat6; (obtain ⟨p6, n6, c6, rfl⟩ : ∃ p n c, v6 = Value.slice p n c := (by obtain ⟨p, c, hv, h1, h2⟩ := ho6.len; exact ⟨p, _, c, hv⟩)); (have hC6 := HM5.out.grow hg6 (.inr (.inl rfl))); (have b1 := hC6.out.cell 1 (u := .slice pb nb cb) rfl); (have x1 := hC6.out.frozen 1))
        have hM6 := HM5.out.app2 ho6 hg6 (hat6.imp id (fun h k e => by rw [h] at e; cases e; exact Nat.le_refl _))
        obtain ⟨W6, hW6⟩ : ∃ W, w6.setCell ⟨w.heap.size + 2, 1, none⟩ (.slice p6 n6 c6) = W := ⟨_, rfl⟩
        rw [hW6] at hM6 ⊢
        have HM6 := Lib.hid hM6
        clear hW6 hM6 ho6 hg6 hat6 hC6 b1 x1 o0 o1 o2 o3 o4 d0 d1 d2 d3 d4 HM5 zo zc
        have zo := HM6.out.cs.out.lt
        have zc := HM6.out.cs.c.lt
        have o0 := HM6.out.cs.out.cell 0 rfl
        have o1 := HM6.out.cs.out.cell 1 rfl
        have o2 := HM6.out.cs.out.cell 2 rfl
        have o3 := HM6.out.cs.out.cell 3 rfl
        have o4 := HM6.out.cs.out.cell 4 rfl
        have d0 := HM6.out.cs.c.cell 0 rfl
        have d1 := HM6.out.cs.c.cell 1 rfl
        have d2 := HM6.out.cs.c.cell 2 rfl
        have d3 := HM6.out.cs.c.cell 3 rfl
        have d4 := HM6.out.cs.c.cell 4 rfl
        go_upto_region 11 with (at_builtin; refine wpList_append_rd slS codecS _ rfl _ _ rfl rfl rfl HM6.out.ls.own.oc (HM6.out.ls.ch.gone.rd codecS) k3.out.1 k3.out.2 (by omega) ?_; intro v7 w7 ho7 hg7 hat7; (obtain ⟨p7, n7, c7, rfl⟩ : ∃ p n c, v7 = Value.slice p n c := (by obtain ⟨p, c, hv, h1, h2⟩ := ho7.len; exact ⟨p, _, c, hv⟩)); (have hC7 := HM6.out.grow hg7 (.inr (.inr rfl))); (have b2 := hC7.out.cell 2 (u := .slice pc nc cc) rfl); (have x2 := hC7.out.frozen 2))
        have hM7 := HM6.out.app3 ho7 hg7 (hat7.imp id (fun h k e => by rw [h] at e; cases e; exact Nat.le_refl _))
        obtain ⟨W7, hW7⟩ : ∃ W, w7.setCell ⟨w.heap.size + 2, 2, none⟩ (.slice p7 n7 c7) = W := ⟨_, rfl⟩
        rw [hW7] at hM7 ⊢
        have HM7 := Lib.hid hM7
        clear hW7 hM7 ho7 hg7 hat7 hC7 b2 x2 o0 o1 o2 o3 o4 d0 d1 d2 d3 d4 HM6 zo zc
        have zo := HM7.out.cs.out.lt
        have zc := HM7.out.cs.c.lt
        have zn : g1 ≠ w.heap.size + 2 := by have := HM7.out.cs.o; omega
        have o0 := HM7.out.cs.out.cell 0 rfl
        have o1 := HM7.out.cs.out.cell 1 rfl
        have o2 := HM7.out.cs.out.cell 2 rfl
        have o3 := HM7.out.cs.out.cell 3 rfl
        have o4 := HM7.out.cs.out.cell 4 rfl
        have d0 := HM7.out.cs.c.cell 0 rfl
        have d1 := HM7.out.cs.c.cell 1 rfl
        have d2 := HM7.out.cs.c.cell 2 rfl
        have d3 := HM7.out.cs.c.cell 3 rfl
        have d4 := HM7.out.cs.c.cell 4 rfl
        have x3 := HM7.out.cs.out.frozen 3
        have x4 := HM7.out.cs.out.frozen 4
        go_wp2_with fail
        go_roundw
        case rel =>
          refine ⟨k + 1, _, _, _, _, by go_num, by omega, (HM7.out.end2 _ _).all, hj.out.step rfl HRT.out.1 HRT.out.2.1 HT.out HTO.out.1 HTO.out.2⟩
        case measure => simp [intOf]; omega
    | false =>
      have htt := hj.out.fin rfl
      dsimp only at htt
      have e1 : (tt == r.sq) = true := by rw [htt, HRT.out.2.2.2.2]; simp
      have HS := Lib.hid hs.out
      have HJ := Lib.hid hj.out
      have HTT := Lib.hid htt
      have hne : w.heap.size + 2 ≠ w.heap.size + 1 := by omega
      have z0 := HS.out.zero.cell 0 rfl
      have z1 := HS.out.zero.cell 1 rfl
      have z2 := HS.out.zero.cell 2 rfl
      have z3 := HS.out.zero.cell 3 rfl
      have z4 := HS.out.zero.cell 4 rfl
      have y0 := HS.out.zero.frozen 0
      have y1 := HS.out.zero.frozen 1
      have y2 := HS.out.zero.frozen 2
      have y3 := HS.out.zero.frozen 3
      have y4 := HS.out.zero.frozen 4
      have HK : Hid (k ≤ 1001) := by have := HRT.out.2.1; unfold Hid; omega
      clear hs hj htt hk
      go_upto_region 13 with fail
      go_region
      all_goals
        go_wp2_with fail
        obtain ⟨f1, f2, f3⟩ := HS.out.fin
        dsimp only at f1 f2 f3
        obtain ⟨W9, hW9⟩ : ∃ W9, (((((wr.setCell ⟨w.heap.size + 1, 0, none⟩ (.slice pa na ca)).setCell ⟨w.heap.size + 1, 1, none⟩ (.slice pb nb cb)).setCell ⟨w.heap.size + 1, 2, none⟩ (.slice pc nc cc)).setCell ⟨w.heap.size + 1, 3, none⟩ (.int .i64 tt)).setCell ⟨w.heap.size + 1, 4, none⟩ (.bool false)).drew = W9 := ⟨_, rfl⟩
        rw [hW9] at f1 f2 f3 ⊢
        clear hW9 z0 z1 z2 z3 z4 c0 c1 c2 c3 c4 o0 o1 o2 o3 o4 y0 y1 y2 y3 y4
        have z0 := f1.cell 0 rfl
        have z1 := f1.cell 1 rfl
        have z2 := f1.cell 2 rfl
        have z3 := f1.cell 3 rfl
        have z4 := f1.cell 4 rfl
        dsimp only at z0 z1 z2 z3 z4
        have hall := HJ.out.all
        have l1 := HJ.out.lm
        have l2 := HJ.out.lc
        have l3 := HJ.out.lg
        have l4 := HK.out
        dsimp only at hall
        rw [HTT.out] at hall
        refine bodyPost_ret (v := .tuple #[RC.val ⟨pa, na, ca, pb, nb, cb, pc, nc, cc, tt, false⟩, .bool true]) (by simp [results, Try.results45, go_sem, z0, z1, z2, z3, z4]) rfl ?_
        exact ⟨_, m, c, g, rfl, ⟨f2.made, f2.chgd, f2.gone, HTT.out.symm, rfl⟩, hall, ⟨by omega, by omega, by omega⟩, f3⟩
end Go.Proofs.Ythgkgjcnmahacaa
