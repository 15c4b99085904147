import Derived.Test.YthgkgjcnmahacaaSc27
/- The law's play: a box behind acts that go; walked. -/
set_option linter.unusedSimpArgs false
set_option linter.unusedVariables false
namespace Go.Proofs.Ythgkgjcnmahacaa
open Go.RowKit Go.OpenShut

/-- A box behind acts that go. -/
noncomputable def playB (b : BoxD) (ops : List (RO × JV)) : BoxD := ops.foldl (fun d o => doesB d o.1.k o.1.id o.2) b
theorem playB_take {b : BoxD} {ops : List (RO × JV)} {j : Nat} {o : RO × JV} (h : ops[j]? = some o) : playB b (ops.take (j + 1)) = doesB (playB b (ops.take j)) o.1.k o.1.id o.2 := by
  rw [List.take_add_one, h]
  simp [playB]
theorem doesB_rise {b : BoxD} (k : Int) (id : ByteArray) (v : JV) (hr : Rise b.objs) : Rise (doesB b k id v).objs := by
  unfold doesB actB
  by_cases k1 : k = 1
  · subst k1
    rw [if_pos rfl]
    unfold putB
    by_cases ha : isAt b.objs id = true
    · rw [if_pos ha]
      by_cases hsm : SameT (oldV b.objs id) v
      · rw [if_pos hsm]
        simp only [if_pos]
        exact hr
      · rw [if_neg hsm]
        by_cases hns : 9007199254740991 ≤ b.seq
        · rw [if_pos hns]
          simp only [if_neg (show ¬ (180 : Int) = 0 by decide)]
          exact hr
        · rw [if_neg hns]
          simp only [if_pos]
          have e : b.objs.set (lowN b.objs id) (id, v) = putL b.objs id v := by unfold putL; rw [if_pos ha]
          rw [e]
          exact putL_rise hr id v
    · rw [if_neg ha]
      by_cases ht2 : toldB b.trail id = true
      · rw [if_pos ht2]
        simp only [if_neg (show ¬ (181 : Int) = 0 by decide)]
        exact hr
      · rw [if_neg ht2]
        by_cases hns : 9007199254740991 ≤ b.seq
        · rw [if_pos hns]
          simp only [if_neg (show ¬ (180 : Int) = 0 by decide)]
          exact hr
        · rw [if_neg hns]
          simp only [if_pos]
          have e : b.objs.take (lowN b.objs id) ++ (id, v) :: b.objs.drop (lowN b.objs id) = putL b.objs id v := by unfold putL; rw [if_neg ha]
          rw [e]
          exact putL_rise hr id v
  · rw [if_neg k1]
    by_cases k2 : k = 2
    · subst k2
      rw [if_pos rfl]
      unfold dropB
      by_cases ha : isAt b.objs id = true
      · rw [if_neg (show ¬ isAt b.objs id = false by rw [ha]; decide)]
        by_cases hns : 9007199254740991 ≤ b.seq
        · rw [if_pos hns]
          simp only [if_neg (show ¬ (180 : Int) = 0 by decide)]
          exact hr
        · rw [if_neg hns]
          simp only [if_pos]
          have e : b.objs.take (lowN b.objs id) ++ b.objs.drop (lowN b.objs id + 1) = delL b.objs id := by unfold delL; rw [if_pos ha]
          rw [e]
          exact delL_rise hr id
      · rw [if_pos (show isAt b.objs id = false by simpa using ha)]
        simp only [if_neg (show ¬ (81 : Int) = 0 by decide)]
        exact hr
    · rw [if_neg k2]
      simp only [if_neg (show ¬ (81 : Int) = 0 by decide)]
      exact hr
/-- What stays true of a box. -/
structure Good (d : BoxD) (a c : Nat) : Prop where
  ok : d.Ok
  tr : ∀ x ∈ d.trail, x.ok
  rise : Rise d.objs
  objs : d.objs.length ≤ a
  trail : d.trail.length ≤ c
theorem Good.does {d : BoxD} {a c : Nat} (h : Good d a c) (ha : a ≤ 1000) (hc : c ≤ 1000) {o : RO} {t : JV} (ho : OpOk o t) : Good (doesB d o.k o.id t) (a + 1) (c + 1) := by
  have h1 := doesB_ok (k := o.k) h.ok h.tr (by have := h.objs; omega) (by have := h.trail; omega) ho.1 ho.2
  exact ⟨h1.1, doesB_trail h.ok h.tr ho.1, doesB_rise _ _ _ h.rise, by have := h.objs; omega, by have := h.trail; omega⟩
theorem Good.play {b : BoxD} {a c : Nat} (h : Good b a c) {ops : List (RO × JV)} (ho : ∀ o ∈ ops, OpOk o.1 o.2) (ha : a + ops.length ≤ 1000) (hc : c + ops.length ≤ 1000) : ∀ j, j ≤ ops.length → Good (playB b (ops.take j)) (a + j) (c + j)
  | 0, _ => h
  | j + 1, hj => by
    have ih := Good.play h ho ha hc j (by omega)
    obtain ⟨o, hx⟩ : ∃ x, ops[j]? = some x := ⟨_, List.getElem?_eq_getElem (by omega)⟩
    rw [playB_take hx]
    exact ih.does (by omega) (by omega) (ho o (List.mem_of_getElem? hx))

/-- The blocks of the walk. -/
structure PlS (w W : World) (q : RB) : Prop where
  box : BoxAt W w.heap.size q
  zero : BoxAt W (w.heap.size + 1) RB.zero
  below : Below w.heap.size w W
theorem PlS.go {w W W' : World} {q : RB} (h : PlS w W q) (hb : Below W.heap.size W W') : PlS w W' q := ⟨h.box.under hb h.box.lt, h.zero.under hb h.zero.lt, h.below.trans (hb.mono h.below.size)⟩
theorem PlS.row {w W W' : World} {q : RB} {g : Nat} (h : PlS w W q) (hg : W.grownBy W' (some g)) (h1 : w.heap.size + 1 < g) : PlS w W' q := ⟨h.box.kept hg (by omega), h.zero.kept hg (by omega), h.below.grown hg h.below.size (fun k e => by simp at e; omega)⟩
theorem PlS.set {w W : World} {q : RB} (h : PlS w W q) (p : RB) : PlS w (((((W.setCell ⟨w.heap.size, 0, none⟩ (.slice p.po p.no p.co)).setCell ⟨w.heap.size, 1, none⟩ (.slice p.pt p.nt p.ct)).setCell ⟨w.heap.size, 2, none⟩ (.int .i64 p.sq)).setCell ⟨w.heap.size, 3, none⟩ (.int .i64 p.fl)).setCell ⟨w.heap.size, 4, none⟩ (.int .i64 p.kp)) p := by
  have hg := grownBy_setB W w.heap.size p
  exact ⟨h.box.stored p, h.zero.kept hg (by omega), h.below.grown hg h.below.size (fun k e => by simp at e; omega)⟩

set_option maxRecDepth 200000 in
set_option maxHeartbeats 8000000 in
theorem play_any (b : BoxD) (r : RB) (ops : List (RO × JV)) (v : Value) (w : World) (a c : Nat) (hb : BoxOf w w.heap.size b r) (hgd : Good b a c) (hv : Rd w w.heap.size encOp 7 v (ops.map (·.1))) (ht : ∀ o ∈ ops, TreeOf w w.heap.size o.2 o.1.v ∧ OpOk o.1 o.2) (ha : a + ops.length ≤ 1000) (hc : c + ops.length ≤ 1000) :
    Calls Try.prog 47 #[r.val, v] w (DoesRet w (playB b ops)) := by
  obtain ⟨p, cc, rfl, hlc, hcm⟩ := rd_len hv
  have hS : PlS w ((w.alloc r.obj).alloc RB.zero.obj) r := ⟨heap_alloc_lt (by simp) (heap_alloc_at rfl), heap_alloc_at (by simp), below2 w _ _⟩
  have HBX := Lib.hid hb
  have HGD := Lib.hid (hgd.play (fun o h => (ht o h).2) ha hc)
  have HV := Lib.hid hv
  have HT := Lib.hid ht
  obtain ⟨n, hn⟩ : ∃ n, (ops.map (·.1)).length = n := ⟨_, rfl⟩
  have HN : Hid (ops.length = n) := by unfold Hid; rw [← hn, List.length_map]
  have hn1 : n ≤ 1000 := by have := HN.out; omega
  rw [hn]
  clear hb hgd hv ht hlc hcm hn ha hc
  go_enter Try.func47, Try.ntmps47
  go_upto_region 1 with fail
  obtain ⟨W0, hW0⟩ : ∃ W0, ((w.alloc r.obj).alloc RB.zero.obj) = W0 := ⟨_, rfl⟩
  rw [hW0] at hS
  dsimp only [RB.obj, RB.zero] at hW0
  rw [hW0]
  clear hW0
  have HS := Lib.hid hS
  have HB0 := Lib.hid (HBX.out.under hS.below hS.below.size)
  clear hS
  go_wp2_with fail
  go_loopw [5] (fun i wr => ∃ (j : Nat) (q : RB), j ≤ n ∧ i = .int .i64 (j : Int) ∧ Hid (PlS w wr q) ∧ Hid (BoxOf wr wr.heap.size (playB b (ops.take j)) q)) (fun i _ => n - (intOf i).toNat)
  case atStart => exact ⟨0, r, Nat.zero_le _, rfl, HS.out, HB0.out⟩
  case round =>
    obtain ⟨j, q, hj, rfl, HP, HB⟩ := hrel
    by_cases hlt : j < n
    · obtain ⟨o, hx⟩ : ∃ x, ops[j]? = some x := ⟨_, List.getElem?_eq_getElem (by have := HN.out; omega)⟩
      have hx1 : (ops.map (·.1))[j]? = some o.1 := by rw [List.getElem?_map, hx]; rfl
      obtain ⟨b1, o1, rfl, hb1, hc1⟩ := rd_at' (HV.out.below HP.out.below (Nat.le_refl _)) hx1
      have HD := Lib.hid (playB_take (b := b) hx)
      have HG := Lib.hid (HGD.out j (by have := HN.out; omega))
      obtain ⟨d, hd⟩ : ∃ d, playB b (ops.take j) = d := ⟨_, rfl⟩
      have HTO := HT.out o (List.mem_of_getElem? hx)
      have HTO := Lib.hid HTO
      rw [hd] at HB HD HG
      obtain ⟨o, t⟩ := o
      dsimp only at hc1 HD HTO
      obtain ⟨gx, hgx⟩ : ∃ g, wr.heap.size = g := ⟨_, rfl⟩
      have hX1 : BoxAt (wr.alloc q.obj) gx q := by rw [← hgx]; exact heap_alloc_at rfl
      have hP1 : PlS w (wr.alloc q.obj) q := HP.out.go ((Below.refl _ _).alloc (Nat.le_refl _) _)
      have hB1 : BoxOf (wr.alloc q.obj) (wr.alloc q.obj).heap.size d q := HB.out.under ((Below.refl _ _).alloc (Nat.le_refl _) _) (by simp)
      have HGX : Hid (w.heap.size + 1 < gx) := by rw [← hgx]; exact HP.out.zero.lt
      have HBW : Hid (Below w.heap.size wr (wr.alloc q.obj)) := (Below.refl _ _).alloc HP.out.below.size _
      have hk0 : (0 : Int) ≤ (j : Int) := Int.natCast_nonneg _
      have hk1 : (j : Int) < (n : Int) := by omega
      have f0 := hc1 0 _ rfl
      have f1 := hc1 1 _ rfl
      have f2 := hc1 2 _ rfl
      have f3 := hc1 3 _ rfl
      have f4 := hc1 4 _ rfl
      have f5 := hc1 5 _ rfl
      have f6 := hc1 6 _ rfl
      rw [Nat.add_zero] at f0
      have c0 := HP.out.box.cell 0 rfl
      have c1 := HP.out.box.cell 1 rfl
      have c2 := HP.out.box.cell 2 rfl
      have c3 := HP.out.box.cell 3 rfl
      have c4 := HP.out.box.cell 4 rfl
      clear hx hx1 hd
      go_upto_region 5 with fail
      try rw [hgx]
      obtain ⟨W1, hW1⟩ : ∃ W1, wr.alloc q.obj = W1 := ⟨_, rfl⟩
      rw [hW1] at hX1 hP1 hB1 HBW
      dsimp only [RB.obj] at hW1
      rw [hW1]
      clear hW1 hgx c0 c1 c2 c3 c4
      rw [← HBW.out.cell (p := ⟨_, _, none⟩) hb1] at f0 f1 f2 f3 f4 f5 f6
      have HF : Hid (∀ W, Below w.heap.size W1.drew W → W.cell? ⟨b1, o1 + j * 7, none⟩ = some (.int .i64 o.k) ∧ W.cell? ⟨b1, o1 + j * 7 + 1, none⟩ = some (.string o.id)) := fun W h => ⟨by rw [h.cell (p := ⟨_, _, none⟩) hb1]; exact f0, by rw [h.cell (p := ⟨_, _, none⟩) hb1]; exact f1⟩
      have HX1 := Lib.hid hX1
      have HP1 := Lib.hid hP1
      have HB1 := Lib.hid hB1
      have hne1 : gx ≠ w.heap.size := by have := HGX.out; omega
      clear hX1 hP1 hB1 hb1 hc1
      have x0 := HX1.out.cell 0 rfl
      have x1 := HX1.out.cell 1 rfl
      have x2 := HX1.out.cell 2 rfl
      have x3 := HX1.out.cell 3 rfl
      have x4 := HX1.out.cell 4 rfl
      have y0 := HX1.out.frozen 0
      have y1 := HX1.out.frozen 1
      have y2 := HX1.out.frozen 2
      have y3 := HX1.out.frozen 3
      have y4 := HX1.out.frozen 4
      have HX1D : Hid (BoxAt W1.drew gx q) := HX1.out
      have HP1D : Hid (PlS w W1.drew q) := HP1.out.go (Below.refl _ _).drew
      have HB1D : Hid (BoxOf W1.drew W1.drew.heap.size d q) := HB1.out.under (Below.refl _ _).drew (Nat.le_refl _)
      by_cases k1 : o.k = 1
      · have kb : (o.k == 1) = true := by simp [k1]
        have kb2 : (o.k == 2) = false := by simp [k1]
        have HTW := (HTO.out.1.under (HP1.out.below.trans (Below.refl _ _).drew) HP1.out.below.size)
        have HPT := Lib.hid (put_any d q o.id t o.v W1.drew (HB1.out.under (Below.refl _ _).drew (Nat.le_refl _)) (rise_iff.2 HG.out.rise) HG.out.ok HTW HTO.out.2.2 HTO.out.2.1)
        have HA : Hid (actB d o.k o.id t = putB d o.id t) := by unfold Hid actB; rw [if_pos k1]
        have c0 := HP1.out.box.cell 0 rfl
        have c1 := HP1.out.box.cell 1 rfl
        have c2 := HP1.out.box.cell 2 rfl
        have c3 := HP1.out.box.cell 3 rfl
        have c4 := HP1.out.box.cell 4 rfl
        clear k1 HTW
        go_upto_region 7 with fail
        go_region_law (first
          | (go_simp; go_at_call 22; refine HPT.out.mono ?_; rintro e w2 ⟨q2, rfl, hN, hb2⟩; (have HX2 := Lib.hid (HX1D.out.under hb2 HX1D.out.lt)); (have d0 := HX2.out.cell 0 rfl); (have d1 := HX2.out.cell 1 rfl); (have d2 := HX2.out.cell 2 rfl); (have d3 := HX2.out.cell 3 rfl); (have d4 := HX2.out.cell 4 rfl); (have e0 := HX2.out.frozen 0); (have e1 := HX2.out.frozen 1); (have e2 := HX2.out.frozen 2); (have e3 := HX2.out.frozen 3); (have e4 := HX2.out.frozen 4))
          | fail)
        all_goals
          have HP2 := HP1D.out.go hb2
          have hlt0 := HX1D.out.lt
          have hg := grownBy_setB w2 gx q2
          have hne := hN.ne (g := gx) hlt0
          have hN2 := hN.unbox HX2.out hg hne.1 hne.2 hb2.size
          have hbo := hN2.box (by simp; exact hb2.size)
          have HX3 := Lib.hid (HX2.out.stored q2)
          have HBQ : Hid (BoxOf (((((w2.setCell ⟨gx, 0, none⟩ (.slice q2.po q2.no q2.co)).setCell ⟨gx, 1, none⟩ (.slice q2.pt q2.nt q2.ct)).setCell ⟨gx, 2, none⟩ (.int .i64 q2.sq)).setCell ⟨gx, 3, none⟩ (.int .i64 q2.fl)).setCell ⟨gx, 4, none⟩ (.int .i64 q2.kp)) ((((((w2.setCell ⟨gx, 0, none⟩ (.slice q2.po q2.no q2.co)).setCell ⟨gx, 1, none⟩ (.slice q2.pt q2.nt q2.ct)).setCell ⟨gx, 2, none⟩ (.int .i64 q2.sq)).setCell ⟨gx, 3, none⟩ (.int .i64 q2.fl)).setCell ⟨gx, 4, none⟩ (.int .i64 q2.kp))).heap.size d q) := (HB1D.out.under hb2 hb2.size).unbox HX2.out hg
          have HP3 := Lib.hid (HP2.row hg HGX.out)
          have HBW3 : Hid (Below w.heap.size W1.drew (((((w2.setCell ⟨gx, 0, none⟩ (.slice q2.po q2.no q2.co)).setCell ⟨gx, 1, none⟩ (.slice q2.pt q2.nt q2.ct)).setCell ⟨gx, 2, none⟩ (.int .i64 q2.sq)).setCell ⟨gx, 3, none⟩ (.int .i64 q2.fl)).setCell ⟨gx, 4, none⟩ (.int .i64 q2.kp))) := (hb2.mono HP1D.out.below.size).grown hg (by have := hb2.size; have := HP1D.out.below.size; exact Nat.le_trans this ‹_›) (fun k e => by simp at e; have := HGX.out; omega)
          have hff := HF.out _ HBW3.out
          obtain ⟨W2, hW2⟩ : ∃ W2, (((((w2.setCell ⟨gx, 0, none⟩ (.slice q2.po q2.no q2.co)).setCell ⟨gx, 1, none⟩ (.slice q2.pt q2.nt q2.ct)).setCell ⟨gx, 2, none⟩ (.int .i64 q2.sq)).setCell ⟨gx, 3, none⟩ (.int .i64 q2.fl)).setCell ⟨gx, 4, none⟩ (.int .i64 q2.kp)) = W2 := ⟨_, rfl⟩
          rw [hW2] at HX3 hbo HP3 HBW3 hff HBQ ⊢
          have HBO := Lib.hid hbo
          obtain ⟨er, her⟩ : ∃ er, (putB d o.id t).2 = er := ⟨_, rfl⟩
          rw [her]
          have HER : Hid ((actB d o.k o.id t).2 = er) := by unfold Hid; rw [HA.out]; exact her
          have HBO' : Hid (BoxOf W2 W2.heap.size (actB d o.k o.id t).1 q2) := by unfold Hid; rw [HA.out]; exact HBO.out
          clear her HBO HA hW2 hbo hN2 hne hg hlt0 HP2 HPT hN hb2 HX2 x0 x1 x2 x3 x4 y0 y1 y2 y3 y4 d0 d1 d2 d3 d4 e0 e1 e2 e3 e4 f0 f1 f2 f3 f4 f5 f6 c0 c1 c2 c3 c4 HBW
          obtain ⟨f0, f1⟩ := hff
          by_cases he : er = 0
          · have he1 : (er != 0) = false := by simp [he]
            have he2 : (er == 0) = true := by simp [he]
            have HDD : Hid (doesB d o.k o.id t = (actB d o.k o.id t).1) := by unfold Hid doesB; rw [HER.out, if_pos he]
            clear he
            have x0 := HX3.out.cell 0 rfl
            have x1 := HX3.out.cell 1 rfl
            have x2 := HX3.out.cell 2 rfl
            have x3 := HX3.out.cell 3 rfl
            have x4 := HX3.out.cell 4 rfl
            have c0 := HP3.out.box.cell 0 rfl
            have c1 := HP3.out.box.cell 1 rfl
            have c2 := HP3.out.box.cell 2 rfl
            have c3 := HP3.out.box.cell 3 rfl
            have c4 := HP3.out.box.cell 4 rfl
            have y0 := HP3.out.box.frozen 0
            have y1 := HP3.out.box.frozen 1
            have y2 := HP3.out.box.frozen 2
            have y3 := HP3.out.box.frozen 3
            have y4 := HP3.out.box.frozen 4
            go_wp2_with fail
            have hgb := grownBy_setB W2 w.heap.size q2
            go_roundw
            case rel => exact ⟨j + 1, q2, by omega, by go_num, HP3.out.set q2, by unfold Hid; rw [HD.out, HDD.out]; exact HBO'.out.unbox HP3.out.box hgb⟩
            case measure => simp [intOf]; omega
          · have he1 : (er != 0) = true := by simp [he]
            have he2 : (er == 0) = false := by simp [he]
            have HDD : Hid (doesB d o.k o.id t = d) := by unfold Hid doesB; rw [HER.out, if_neg he]
            clear he
            go_wp2_with fail
            go_roundw
            case rel => exact ⟨j + 1, q, by omega, by go_num, HP3.out, by unfold Hid; rw [HD.out, HDD.out]; exact HBQ.out⟩
            case measure => simp [intOf]; omega
      · have kb : (o.k == 1) = false := by simp [k1]
        by_cases k2 : o.k = 2
        · have kb2 : (o.k == 2) = true := by simp [k2]
          have HPT := Lib.hid (drop_any d q o.id W1.drew HB1D.out (rise_iff.2 HG.out.rise) HG.out.ok HTO.out.2.1)
          have HA : Hid (actB d o.k o.id t = dropB d o.id) := by unfold Hid actB; rw [if_neg k1, if_pos k2]
          have c0 := HP1D.out.box.cell 0 rfl
          have c1 := HP1D.out.box.cell 1 rfl
          have c2 := HP1D.out.box.cell 2 rfl
          have c3 := HP1D.out.box.cell 3 rfl
          have c4 := HP1D.out.box.cell 4 rfl
          clear k1 k2
          go_upto_region 9 with fail
          go_region_law (first
            | (go_simp; go_at_call 23; refine HPT.out.mono ?_; rintro e w2 ⟨q2, rfl, hN, hb2⟩; (have HX2 := Lib.hid (HX1D.out.under hb2 HX1D.out.lt)); (have d0 := HX2.out.cell 0 rfl); (have d1 := HX2.out.cell 1 rfl); (have d2 := HX2.out.cell 2 rfl); (have d3 := HX2.out.cell 3 rfl); (have d4 := HX2.out.cell 4 rfl); (have e0 := HX2.out.frozen 0); (have e1 := HX2.out.frozen 1); (have e2 := HX2.out.frozen 2); (have e3 := HX2.out.frozen 3); (have e4 := HX2.out.frozen 4))
            | fail)
          all_goals
            have HP2 := HP1D.out.go hb2
            have hlt0 := HX1D.out.lt
            have hg := grownBy_setB w2 gx q2
            have hne := hN.ne (g := gx) hlt0
            have hN2 := hN.unbox HX2.out hg hne.1 hne.2 hb2.size
            have hbo := hN2.box (by simp; exact hb2.size)
            have HX3 := Lib.hid (HX2.out.stored q2)
            have HBQ : Hid (BoxOf (((((w2.setCell ⟨gx, 0, none⟩ (.slice q2.po q2.no q2.co)).setCell ⟨gx, 1, none⟩ (.slice q2.pt q2.nt q2.ct)).setCell ⟨gx, 2, none⟩ (.int .i64 q2.sq)).setCell ⟨gx, 3, none⟩ (.int .i64 q2.fl)).setCell ⟨gx, 4, none⟩ (.int .i64 q2.kp)) ((((((w2.setCell ⟨gx, 0, none⟩ (.slice q2.po q2.no q2.co)).setCell ⟨gx, 1, none⟩ (.slice q2.pt q2.nt q2.ct)).setCell ⟨gx, 2, none⟩ (.int .i64 q2.sq)).setCell ⟨gx, 3, none⟩ (.int .i64 q2.fl)).setCell ⟨gx, 4, none⟩ (.int .i64 q2.kp))).heap.size d q) := (HB1D.out.under hb2 hb2.size).unbox HX2.out hg
            have HP3 := Lib.hid (HP2.row hg HGX.out)
            obtain ⟨W2, hW2⟩ : ∃ W2, (((((w2.setCell ⟨gx, 0, none⟩ (.slice q2.po q2.no q2.co)).setCell ⟨gx, 1, none⟩ (.slice q2.pt q2.nt q2.ct)).setCell ⟨gx, 2, none⟩ (.int .i64 q2.sq)).setCell ⟨gx, 3, none⟩ (.int .i64 q2.fl)).setCell ⟨gx, 4, none⟩ (.int .i64 q2.kp)) = W2 := ⟨_, rfl⟩
            rw [hW2] at HX3 hbo HP3 HBQ ⊢
            have HBO := Lib.hid hbo
            obtain ⟨er, her⟩ : ∃ er, (dropB d o.id).2 = er := ⟨_, rfl⟩
            rw [her]
            have HER : Hid ((actB d o.k o.id t).2 = er) := by unfold Hid; rw [HA.out]; exact her
            have HBO' : Hid (BoxOf W2 W2.heap.size (actB d o.k o.id t).1 q2) := by unfold Hid; rw [HA.out]; exact HBO.out
            clear her HBO HA hW2 hbo hN2 hne hg hlt0 HP2 HPT hN hb2 HX2 x0 x1 x2 x3 x4 y0 y1 y2 y3 y4 d0 d1 d2 d3 d4 e0 e1 e2 e3 e4 f0 f1 f2 f3 f4 f5 f6 c0 c1 c2 c3 c4 HBW
            by_cases he : er = 0
            · have he1 : (er != 0) = false := by simp [he]
              have he2 : (er == 0) = true := by simp [he]
              have HDD : Hid (doesB d o.k o.id t = (actB d o.k o.id t).1) := by unfold Hid doesB; rw [HER.out, if_pos he]
              clear he
              have x0 := HX3.out.cell 0 rfl
              have x1 := HX3.out.cell 1 rfl
              have x2 := HX3.out.cell 2 rfl
              have x3 := HX3.out.cell 3 rfl
              have x4 := HX3.out.cell 4 rfl
              have c0 := HP3.out.box.cell 0 rfl
              have c1 := HP3.out.box.cell 1 rfl
              have c2 := HP3.out.box.cell 2 rfl
              have c3 := HP3.out.box.cell 3 rfl
              have c4 := HP3.out.box.cell 4 rfl
              have y0 := HP3.out.box.frozen 0
              have y1 := HP3.out.box.frozen 1
              have y2 := HP3.out.box.frozen 2
              have y3 := HP3.out.box.frozen 3
              have y4 := HP3.out.box.frozen 4
              go_wp2_with fail
              have hgb := grownBy_setB W2 w.heap.size q2
              go_roundw
              case rel => exact ⟨j + 1, q2, by omega, by go_num, HP3.out.set q2, by unfold Hid; rw [HD.out, HDD.out]; exact HBO'.out.unbox HP3.out.box hgb⟩
              case measure => simp [intOf]; omega
            · have he1 : (er != 0) = true := by simp [he]
              have he2 : (er == 0) = false := by simp [he]
              have HDD : Hid (doesB d o.k o.id t = d) := by unfold Hid doesB; rw [HER.out, if_neg he]
              clear he
              go_wp2_with fail
              go_roundw
              case rel => exact ⟨j + 1, q, by omega, by go_num, HP3.out, by unfold Hid; rw [HD.out, HDD.out]; exact HBQ.out⟩
              case measure => simp [intOf]; omega
        · have kb2 : (o.k == 2) = false := by simp [k2]
          have HDD : Hid (doesB d o.k o.id t = d) := by unfold Hid doesB actB; rw [if_neg k1, if_neg k2]; rfl
          clear k1 k2
          go_wp2_with fail
          go_roundw
          case rel => exact ⟨j + 1, q, by omega, by go_num, HP1.out, by unfold Hid; rw [HD.out, HDD.out]; exact HB1.out⟩
          case measure => simp [intOf]; omega
    · obtain rfl : j = n := by omega
      have hjj : ops.take j = ops := List.take_of_length_le (by have := HN.out; omega)
      rw [hjj] at HB
      have c0 := HP.out.box.cell 0 rfl
      have c1 := HP.out.box.cell 1 rfl
      have c2 := HP.out.box.cell 2 rfl
      have c3 := HP.out.box.cell 3 rfl
      have c4 := HP.out.box.cell 4 rfl
      have z0 := HP.out.zero.cell 0 rfl
      have z1 := HP.out.zero.cell 1 rfl
      have z2 := HP.out.zero.cell 2 rfl
      have z3 := HP.out.zero.cell 3 rfl
      have z4 := HP.out.zero.cell 4 rfl
      have y0 := HP.out.zero.frozen 0
      have y1 := HP.out.zero.frozen 1
      have y2 := HP.out.zero.frozen 2
      have y3 := HP.out.zero.frozen 3
      have y4 := HP.out.zero.frozen 4
      dsimp only [RB.zero] at z0 z1 z2 z3 z4
      clear hjj
      go_wp2_with fail
      have hg := grownBy_setB wr (w.heap.size + 1) q
      refine bodyPost_ret (v := RB.val q) (by simp [results, Try.results47, go_sem, z0, z1, z2, z3, z4]) rfl ⟨q, rfl, ?_, HP.out.below.grown hg HP.out.below.size (fun a e => by simp at e; omega)⟩
      exact HB.out.unbox HP.out.zero hg
end Go.Proofs.Ythgkgjcnmahacaa
