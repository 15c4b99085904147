import Derived.Test.YthgkgjcnmahacaaTs10
import Derived.Test.YthgkgjcnmahacaaTs09
import Derived.Test.YthgkgjcnmahacaaTs12
import Derived.Test.YthgkgjcnmahacaaTs13
import Derived.Test.YthgkgjcnmahacaaTs15
import Derived.Deep.RegionHeld3
/- The law that being the same doesn't hang on the order of members, walked. -/
set_option linter.unusedSimpArgs false
set_option linter.unusedVariables false
namespace Go.Proofs.Ythgkgjcnmahacaa
open Go.RowKit Go.OpenShut

theorem bkL_ext : ∀ (l l' : List JV), l'.length = l.length → (∀ (i : Nat) (t u : JV), l[i]? = some t → l'[i]? = some u → bkT u = bkT t) → bkL l' = bkL l
  | [], [], _, _ => rfl
  | a :: l, b :: l', h, hc => by
    rw [bkL, bkL, hc 0 a b rfl rfl, bkL_ext l l' (by simpa using h) (fun i t u h1 h2 => hc (i + 1) t u (by simpa using h1) (by simpa using h2))]
  | [], _ :: _, h, _ => by simp at h
  | _ :: _, [], h, _ => by simp at h
theorem bkM_ext : ∀ (l l' : List (ByteArray × JV)), l'.length = l.length → (∀ (i : Nat) (p q : ByteArray × JV), l[i]? = some p → l'[i]? = some q → p.1 = q.1) → (∀ (i : Nat) (p q : ByteArray × JV), l[i]? = some p → l'[i]? = some q → bkT q.2 = bkT p.2) → bkM l' = bkM l
  | [], [], _, _, _ => rfl
  | (a, x) :: l, (b, y) :: l', h, hn, hc => by
    have e1 : a = b := hn 0 (a, x) (b, y) rfl rfl
    have e2 : bkT y = bkT x := hc 0 (a, x) (b, y) rfl rfl
    rw [bkM, bkM, e2, e1, bkM_ext l l' (by simpa using h) (fun i t u h1 h2 => hn (i + 1) t u (by simpa using h1) (by simpa using h2)) (fun i t u h1 h2 => hc (i + 1) t u (by simpa using h1) (by simpa using h2))]
  | [], _ :: _, h, _, _ => by simp at h
  | _ :: _, [], h, _, _ => by simp at h
theorem bkM_perm {l l' : List (ByteArray × JV)} (h : l'.Perm l) : bkM l' = bkM l := by
  induction h with
  | nil => rfl
  | cons x _ ih => obtain ⟨a, t⟩ := x; rw [bkM, bkM, ih]
  | swap x y l => obtain ⟨a, t⟩ := x; obtain ⟨b, u⟩ := y; simp only [bkM]; omega
  | trans _ _ ih1 ih2 => exact ih1.trans ih2
theorem SortOf.bk {t u : JV} (h : SortOf t u) : bkT u = bkT t := by
  induction h with
  | mk el cl em cn cm st ih1 ih2 =>
    rw [bkT, bkT, bkL_ext _ _ el ih1, bkM_perm st.perm, bkM_ext _ _ em cn ih2]
/-- The law, in plain. -/
theorem same_law {v w a b : JV} (hv : checkE v = 0) (hw : checkE w = 0) (sa : SortOf v a) (sb : SortOf w b) :
    SameT v a ∧ SameT a v ∧ (SameT v w ↔ textB a = textB b) ∧ (SameT w v ↔ textB a = textB b) := by
  have ca := sa.check hv
  have cb := sb.check hw
  have ov := ((check_iff v).1 hv).1
  have ow := ((check_iff w).1 hw).1
  have oa := ((check_iff a).1 ca).1
  have ob := ((check_iff b).1 cb).1
  have hs := sa.same 1 ov
  have htx : textB a = textB b ↔ a = b := by
    unfold textB
    rw [if_pos ca, if_pos cb]
    constructor
    · intro h
      have h2 := toB_inj h
      exact (txtT_inj a b 1 1 [] [] oa ob (fun c r e => by cases e) (fun c r e => by cases e) (by rw [List.append_nil, List.append_nil]; exact h2)).1
    · rintro rfl; rfl
  refine ⟨hs.1, hs.2, ?_, ?_⟩
  · rw [htx]
    exact ⟨fun h => h.sorted 1 1 a b ov ow sa sb, fun h => by subst h; exact sa.both w 1 1 ov ow sb⟩
  · rw [htx]
    exact ⟨fun h => (h.sorted 1 1 b a ow ov sb sa).symm, fun h => by subst h; exact sb.both v 1 1 ow ov sa⟩

set_option maxRecDepth 200000 in
set_option maxHeartbeats 16000000 in
theorem treeSame_any (w : World) (t x : JV) (r q : RV) (ht : TreeOf w w.heap.size t r) (ot : t.Ok) (hx : TreeOf w w.heap.size x q) (ox : x.Ok) (bt : bkT t ≤ 1048576) (bx : bkT x ≤ 1048576) :
    Calls Try.prog 7 #[r.val, q.val] w fun e w' => e = .returned (.bool true) ∧ Below w.heap.size w w' := by
  have HC0 := ((((Ctx.nil w).know ht).know hx).alloc r).alloc q
  have HT := Lib.hid ot
  have HX := Lib.hid ox
  have HBT : Hid (bkT t ≤ 1048576 ∧ bkT x ≤ 1048576) := ⟨bt, bx⟩
  clear ht ot hx ox bt bx
  go_enter Try.func7, Try.ntmps7
  go_upto_region 1 with fail
  obtain ⟨W, g1, hW, hg, HC⟩ : ∃ W g, ((w.alloc r.obj).alloc q.obj) = W ∧ w.heap.size = g ∧ Ctx w.heap.size w W [(g + 1, q), (g, r)] [(x, q), (t, r)] := ⟨_, _, rfl, rfl, by simpa using HC0⟩
  dsimp only [RV.obj] at hW
  rw [hW, hg]
  clear hW hg HC0
  have qc := HC.lt 0 rfl
  have c0 := (HC.at 0 rfl).cell 0 rfl
  have c1 := (HC.at 0 rfl).cell 1 rfl
  have c2 := (HC.at 0 rfl).cell 2 rfl
  have c3 := (HC.at 0 rfl).cell 3 rfl
  have c4 := (HC.at 0 rfl).cell 4 rfl
  have qd := HC.lt 1 rfl
  have d0 := (HC.at 1 rfl).cell 0 rfl
  have d1 := (HC.at 1 rfl).cell 1 rfl
  have d2 := (HC.at 1 rfl).cell 2 rfl
  have d3 := (HC.at 1 rfl).cell 3 rfl
  have d4 := (HC.at 1 rfl).cell 4 rfl
  go_wp2_with fail
  refine (tawake_any _).mono ?_
  rintro e w1 ⟨rfl, hb1⟩
  have hk1 := KB.step (KB.refl W) hb1
  have hr1 := hk1.2
  go_wp2_with fail
  have hC := check_any t r w1 (HC.tk hk1 1 rfl) HT.out
  by_cases h0 : checkE t = 0
  case neg =>
    have hq1 : (checkE t != 0) = true := by simpa using h0
    have hq2 : (checkE t == 0) = false := by simpa using h0
    refine hC.mono ?_
    rintro e w2 ⟨rfl, hb2⟩
    have hk2 := KB.step hk1 hb2
    clear h0 hC
    go_wp2_with fail
    refine (tawake_any _).mono ?_
    rintro e w3 ⟨rfl, hb3⟩
    go_wp2_with fail
    go_ret
    exact ⟨rfl, HC.fin (KB.step hk2 hb3)⟩
  rw [h0] at hC
  refine hC.mono ?_
  rintro e w2 ⟨rfl, hb2⟩
  have hk2 := KB.step hk1 hb2
  have hr2 := hk2.2
  have H0 := Lib.hid h0
  clear hC h0
  go_wp2_with fail
  have hC := check_any x q w2 (HC.tk hk2 0 rfl) HX.out
  by_cases h0 : checkE x = 0
  case neg =>
    have hq1 : (checkE x != 0) = true := by simpa using h0
    have hq2 : (checkE x == 0) = false := by simpa using h0
    refine hC.mono ?_
    rintro e w3 ⟨rfl, hb3⟩
    have hk3 := KB.step hk2 hb3
    clear h0 hC
    go_wp2_with fail
    refine (tawake_any _).mono ?_
    rintro e w4 ⟨rfl, hb4⟩
    go_wp2_with fail
    go_ret
    exact ⟨rfl, HC.fin (KB.step hk3 hb4)⟩
  rw [h0] at hC
  refine hC.mono ?_
  rintro e w3 ⟨rfl, hb3⟩
  have hk3 := KB.step hk2 hb3
  have hr3 := hk3.2
  have H1 := Lib.hid h0
  clear hC h0
  go_wp2_with fail
  refine (sort_any _ t r w3 (Nat.le_refl _) (HC.tk hk3 1 rfl) HT.out).mono ?_
  rintro e w4 ⟨a, ha, ra, rfl, hla, hb4⟩
  have HCn := HC.box (KB.step hk3 hb4) (hla.tree)
  have HA := Lib.hid ha
  clear hk1 hk2 hk3 hr1 hr2 hr3 hb1 hb2 hb3 hb4 hla ha HC
  clear qc c0 c1 c2 c3 c4 qd d0 d1 d2 d3 d4
  go_upto_region 4 with fail
  obtain ⟨W1, g3, hW, hg, HC⟩ : ∃ W g, w4.alloc ra.obj = W ∧ w4.heap.size = g ∧ Ctx w.heap.size w W [(g, ra), (g1 + 1, q), (g1, r)] [(a, ra), (x, q), (t, r)] := ⟨_, _, rfl, rfl, HCn⟩
  dsimp only [RV.obj] at hW
  rw [hW, hg]
  clear hW hg HCn
  have qc := HC.lt 1 rfl
  have c0 := (HC.at 1 rfl).cell 0 rfl
  have c1 := (HC.at 1 rfl).cell 1 rfl
  have c2 := (HC.at 1 rfl).cell 2 rfl
  have c3 := (HC.at 1 rfl).cell 3 rfl
  have c4 := (HC.at 1 rfl).cell 4 rfl
  go_wp2_with fail
  refine (sort_any _ x q W1 (Nat.le_refl _) (HC.tk (KB.refl W1) 1 rfl) HX.out).mono ?_
  rintro e w5 ⟨b, hb, rb, rfl, hlb, hb5⟩
  have HCn := HC.box (KB.step (KB.refl W1) hb5) (hlb.tree)
  have HB := Lib.hid hb
  clear hb5 hlb hb HC
  clear qc c0 c1 c2 c3 c4
  go_upto_region 5 with fail
  obtain ⟨W2, g4, hW, hg, HC⟩ : ∃ W g, w5.alloc rb.obj = W ∧ w5.heap.size = g ∧ Ctx w.heap.size w W [(g, rb), (g3, ra), (g1 + 1, q), (g1, r)] [(b, rb), (a, ra), (x, q), (t, r)] := ⟨_, _, rfl, rfl, HCn⟩
  dsimp only [RV.obj] at hW
  rw [hW, hg]
  clear hW hg HCn
  have qa := HC.lt 1 rfl
  have a0 := (HC.at 1 rfl).cell 0 rfl
  have a1 := (HC.at 1 rfl).cell 1 rfl
  have a2 := (HC.at 1 rfl).cell 2 rfl
  have a3 := (HC.at 1 rfl).cell 3 rfl
  have a4 := (HC.at 1 rfl).cell 4 rfl
  have qb := HC.lt 0 rfl
  have b0 := (HC.at 0 rfl).cell 0 rfl
  have b1 := (HC.at 0 rfl).cell 1 rfl
  have b2 := (HC.at 0 rfl).cell 2 rfl
  have b3 := (HC.at 0 rfl).cell 3 rfl
  have b4 := (HC.at 0 rfl).cell 4 rfl
  have qc := HC.lt 2 rfl
  have c0 := (HC.at 2 rfl).cell 0 rfl
  have c1 := (HC.at 2 rfl).cell 1 rfl
  have c2 := (HC.at 2 rfl).cell 2 rfl
  have c3 := (HC.at 2 rfl).cell 3 rfl
  have c4 := (HC.at 2 rfl).cell 4 rfl
  have qd := HC.lt 3 rfl
  have d0 := (HC.at 3 rfl).cell 0 rfl
  have d1 := (HC.at 3 rfl).cell 1 rfl
  have d2 := (HC.at 3 rfl).cell 2 rfl
  have d3 := (HC.at 3 rfl).cell 3 rfl
  have d4 := (HC.at 3 rfl).cell 4 rfl
  have hca := HA.out.check H0.out
  have hcb := HB.out.check H1.out
  have HOA := Lib.hid (HA.out.ok HT.out)
  have HOB := Lib.hid (HB.out.ok HX.out)
  obtain ⟨l1, l2, l3, l4⟩ := same_law H0.out H1.out HA.out HB.out
  have ta := fun W' hk => text_any a ra W' (HC.tk hk 1 rfl) HOA.out (by rw [HA.out.bk]; exact HBT.out.1)
  have tb := fun W' hk => text_any b rb W' (HC.tk hk 0 rfl) HOB.out (by rw [HB.out.bk]; exact HBT.out.2)
  unfold TextRet at ta tb
  rw [hca] at ta
  rw [hcb] at tb
  obtain ⟨sa, hsa⟩ : ∃ s, textB a = s := ⟨_, rfl⟩
  obtain ⟨sb, hsb⟩ : ∃ s, textB b = s := ⟨_, rfl⟩
  rw [hsa, hsb] at l3 l4
  simp only [hsa] at ta
  simp only [hsb] at tb
  have TA := Lib.hid ta
  have TB := Lib.hid tb
  obtain ⟨y, hy⟩ : ∃ y : Bool, y = decide (sa = sb) := ⟨_, rfl⟩
  have L1 := Lib.hid l1
  have L2 := Lib.hid l2
  have L3 := Lib.hid l3
  have L4 := Lib.hid l4
  have HY := Lib.hid hy
  have hyy : (sa.toList == sb.toList) = y := by rw [str_beq, hy]
  clear hca hcb l1 l2 l3 l4 ta tb hsa hsb hy
  go_upto_region 6 with (go_at_call 34; refine (TA.out _ (KB.refl W2)).mono ?_; rintro e w6 ⟨rfl, hb6⟩)
  have hk6 := KB.step (KB.refl W2) hb6
  have hr6 := hk6.2
  go_upto_region 7 with (go_at_call 34; refine (TB.out _ hk6).mono ?_; rintro e w7 ⟨rfl, hb7⟩)
  have hk7 := KB.step hk6 hb7
  have HC7 := HC.go hk7.1
  have M1 : Hid (∀ W', KB w7.heap.size w7 W' → Calls Try.prog 35 #[r.val, ra.val] W' fun e w' => e = .returned (.bool true) ∧ Below W'.heap.size W' w') := fun W' hk => (sameT_any _ t a r ra W' (Nat.le_refl _) (HC7.tk hk 3 rfl) (HC7.tk hk 1 rfl) HT.out HOA.out).mono fun e w' h => h.yes L1.out
  have M2 : Hid (∀ W', KB w7.heap.size w7 W' → Calls Try.prog 35 #[ra.val, r.val] W' fun e w' => e = .returned (.bool true) ∧ Below W'.heap.size W' w') := fun W' hk => (sameT_any _ a t ra r W' (Nat.le_refl _) (HC7.tk hk 1 rfl) (HC7.tk hk 3 rfl) HOA.out HT.out).mono fun e w' h => h.yes L2.out
  have M3 : Hid (∀ W', KB w7.heap.size w7 W' → Calls Try.prog 35 #[r.val, q.val] W' fun e w' => e = .returned (.bool y) ∧ Below W'.heap.size W' w') := fun W' hk => (sameT_any _ t x r q W' (Nat.le_refl _) (HC7.tk hk 3 rfl) (HC7.tk hk 2 rfl) HT.out HX.out).mono fun e w' h => by
    obtain ⟨z, rfl, h1, h2⟩ := h
    refine ⟨?_, h2⟩
    have : z = y := by rw [HY.out, Bool.eq_iff_iff, decide_eq_true_iff, h1, L3.out]
    rw [this]
  have M4 : Hid (∀ W', KB w7.heap.size w7 W' → Calls Try.prog 35 #[q.val, r.val] W' fun e w' => e = .returned (.bool y) ∧ Below W'.heap.size W' w') := fun W' hk => (sameT_any _ x t q r W' (Nat.le_refl _) (HC7.tk hk 2 rfl) (HC7.tk hk 3 rfl) HX.out HT.out).mono fun e w' h => by
    obtain ⟨z, rfl, h1, h2⟩ := h
    refine ⟨?_, h2⟩
    have : z = y := by rw [HY.out, Bool.eq_iff_iff, decide_eq_true_iff, h1, L4.out]
    rw [this]
  clear a0 a1 a2 a3 a4 b0 b1 b2 b3 b4 c0 c1 c2 c3 c4 d0 d1 d2 d3 d4 qa qb qc qd hr6 hk6 hk7 hb6 hb7 HC
  have qa := HC7.lt 1 rfl
  have a0 := (HC7.at 1 rfl).cell 0 rfl
  have a1 := (HC7.at 1 rfl).cell 1 rfl
  have a2 := (HC7.at 1 rfl).cell 2 rfl
  have a3 := (HC7.at 1 rfl).cell 3 rfl
  have a4 := (HC7.at 1 rfl).cell 4 rfl
  have qc := HC7.lt 2 rfl
  have c0 := (HC7.at 2 rfl).cell 0 rfl
  have c1 := (HC7.at 2 rfl).cell 1 rfl
  have c2 := (HC7.at 2 rfl).cell 2 rfl
  have c3 := (HC7.at 2 rfl).cell 3 rfl
  have c4 := (HC7.at 2 rfl).cell 4 rfl
  have qd := HC7.lt 3 rfl
  have d0 := (HC7.at 3 rfl).cell 0 rfl
  have d1 := (HC7.at 3 rfl).cell 1 rfl
  have d2 := (HC7.at 3 rfl).cell 2 rfl
  have d3 := (HC7.at 3 rfl).cell 3 rfl
  have d4 := (HC7.at 3 rfl).cell 4 rfl
  cases y
  all_goals
    go_region_held3 (fun w' => Below w7.heap.size w7 w' ∧ ∀ b o, b < w7.heap.size → w'.cell? ⟨b, o, none⟩ = w7.cell? ⟨b, o, none⟩)
      (first | with_reducible exact kt_drew w7 | with_reducible exact kt_same hbk)
      (first
        | (go_at_call 35; ((with_reducible refine (M1.out _ ?hk).mono ?_); case hk => assumption); rintro e w8 ⟨rfl, hbs⟩; (have hbk := KB.step (W := w7) (by assumption) hbs))
        | (go_at_call 35; ((with_reducible refine (M2.out _ ?hk).mono ?_); case hk => assumption); rintro e w8 ⟨rfl, hbs⟩; (have hbk := KB.step (W := w7) (by assumption) hbs))
        | (go_at_call 35; ((with_reducible refine (M3.out _ ?hk).mono ?_); case hk => assumption); rintro e w8 ⟨rfl, hbs⟩; (have hbk := KB.step (W := w7) (by assumption) hbs))
        | (go_at_call 35; ((with_reducible refine (M4.out _ ?hk).mono ?_); case hk => assumption); rintro e w8 ⟨rfl, hbs⟩; (have hbk := KB.step (W := w7) (by assumption) hbs)))
    all_goals
      rename (Below w7.heap.size w7 _ ∧ _) => hkb
      go_wp2_with fail
      go_ret
      exact ⟨rfl, HC7.below.trans (Below.mono hkb.1 HC7.le)⟩
end Go.Proofs.Ythgkgjcnmahacaa
