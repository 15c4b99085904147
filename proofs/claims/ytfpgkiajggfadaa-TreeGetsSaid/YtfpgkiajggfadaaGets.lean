/- The law of what is put in and taken away, walked. -/
import Derived.Test.YtfpgkiajggfadaaTLaw
set_option linter.unusedSimpArgs false
set_option linter.unusedVariables false
namespace Go.Proofs.Ytfpgkiajggfadaa
open Go.RowKit Go.OpenShut

set_option maxRecDepth 200000 in
set_option maxHeartbeats 8000000 in
theorem treeGets_any (w : World) (t x : JV) (r q : RV) (name other : ByteArray) (ht : TreeOf w w.heap.size t r) (ot : t.Ok) (hx : TreeOf w w.heap.size x q) (ox : x.Ok) (hn : name.size ≤ 140737488351232) :
    Calls Try.prog 10 #[r.val, .string name, .string other, q.val] w fun e w' => e = .returned (.bool true) ∧ Below w.heap.size w w' := by
  have HC0 := ((((Ctx.nil w).know ht).know hx).alloc r).alloc q
  have HT := Lib.hid ot
  have HX := Lib.hid ox
  have HN := Lib.hid hn
  have HM := Lib.hid ht.nm_eq
  clear ht ot hx ox hn
  go_enter Try.func10, Try.ntmps10
  go_upto_region 1 with fail
  obtain ⟨W, g1, hW, hg, HC⟩ : ∃ W g, ((w.alloc r.obj).alloc q.obj) = W ∧ w.heap.size = g ∧ Ctx w.heap.size w W [(g + 1, q), (g, r)] [(x, q), (t, r)] := ⟨_, _, rfl, rfl, by simpa using HC0⟩
  dsimp only [RV.obj] at hW
  rw [hW, hg]
  clear hW hg HC0
  have qc := HC.lt 0 rfl
  have c0 := (HC.at 0 rfl).cell 0 rfl
  have c1 := (HC.at 0 rfl).cell 1 rfl
  have c2 := (HC.at 0 rfl).cell 2 rfl
  have c3 := (HC.at 0 rfl).cell 3 rfl
  have c4 := (HC.at 0 rfl).cell 4 rfl
  have qd := HC.lt 1 rfl
  have d0 := (HC.at 1 rfl).cell 0 rfl
  have d1 := (HC.at 1 rfl).cell 1 rfl
  have d2 := (HC.at 1 rfl).cell 2 rfl
  have d3 := (HC.at 1 rfl).cell 3 rfl
  have d4 := (HC.at 1 rfl).cell 4 rfl
  go_wp2_with fail
  refine (tawake_any _).mono ?_
  rintro e w1 ⟨rfl, hb1⟩
  have hk1 := KB.step (KB.refl W) hb1
  have hr1 := hk1.2
  go_wp2_with fail
  refine (few7_any t r 5000 _ (HC.tk hk1 1 rfl) HT.out).mono ?_
  rintro e w2 ⟨b1, rfl, hL, hb2⟩
  have hk2 := KB.step hk1 hb2
  have hr2 := hk2.2
  cases b1 with
  | false =>
    go_wp2_with fail
    refine (tawake_any _).mono ?_
    rintro e w3 ⟨rfl, hb3⟩
    go_wp2_with fail
    go_ret
    exact ⟨rfl, HC.fin (KB.step hk2 hb3)⟩
  | true =>
  go_wp2_with fail
  refine (few7_any x q 5000 _ (HC.tk hk2 0 rfl) HX.out).mono ?_
  rintro e w3 ⟨b2, rfl, _, hb3⟩
  have hk3 := KB.step hk2 hb3
  have hr3 := hk3.2
  cases b2 with
  | false =>
    go_wp2_with fail
    refine (tawake_any _).mono ?_
    rintro e w4 ⟨rfl, hb4⟩
    go_wp2_with fail
    go_ret
    exact ⟨rfl, HC.fin (KB.step hk3 hb4)⟩
  | true =>
  have hPO := Lib.hid (put_ok (name := name) HT.out HX.out HN.out (by rw [HM.out]; exact hL.out trivial))
  have hCO := Lib.hid (cut_ok (name := name) HT.out)
  go_wp2_with fail
  refine (put_v (HC.tk hk3 1 rfl) HT.out (HC.tk hk3 0 rfl)).mono ?_
  rintro e w4 ⟨y, rfl, hy, hb4⟩
  have HCn := HC.box (KB.step hk3 hb4) hy
  clear hk1 hk2 hk3 hr1 hr2 hr3 hb1 hb2 hb3 hb4 hy hL
  clear qc c0 c1 c2 c3 c4 qd d0 d1 d2 d3 d4
  clear HC
  go_upto_region 4 with fail
  obtain ⟨W1, g3, hW, hg, HC⟩ : ∃ W g, w4.alloc y.obj = W ∧ w4.heap.size = g ∧ Ctx w.heap.size w W [(g, y), (g1 + 1, q), (g1, r)] [(t.put name x, y), (x, q), (t, r)] := ⟨_, _, rfl, rfl, HCn⟩
  dsimp only [RV.obj] at hW
  rw [hW, hg]
  clear hW hg HCn
  have qc := HC.lt 2 rfl
  have c0 := (HC.at 2 rfl).cell 0 rfl
  have c1 := (HC.at 2 rfl).cell 1 rfl
  have c2 := (HC.at 2 rfl).cell 2 rfl
  have c3 := (HC.at 2 rfl).cell 3 rfl
  have c4 := (HC.at 2 rfl).cell 4 rfl
  go_wp2_with fail
  refine (cut_v (HC.tk (KB.refl W1) 2 rfl) HT.out).mono ?_
  rintro e w5 ⟨z, rfl, hz, hb5⟩
  have HCn := HC.box (KB.step (KB.refl W1) hb5) hz
  clear hz hb5 HC
  clear qc c0 c1 c2 c3 c4
  go_upto_region 5 with fail
  obtain ⟨W2, g4, hW, hg, HC⟩ : ∃ W g, w5.alloc z.obj = W ∧ w5.heap.size = g ∧ Ctx w.heap.size w W [(g, z), (g3, y), (g1 + 1, q), (g1, r)] [(t.cut name, z), (t.put name x, y), (x, q), (t, r)] := ⟨_, _, rfl, rfl, HCn⟩
  dsimp only [RV.obj] at hW
  rw [hW, hg]
  clear hW hg HCn
  have qc := HC.lt 1 rfl
  have c0 := (HC.at 1 rfl).cell 0 rfl
  have c1 := (HC.at 1 rfl).cell 1 rfl
  have c2 := (HC.at 1 rfl).cell 2 rfl
  have c3 := (HC.at 1 rfl).cell 3 rfl
  have c4 := (HC.at 1 rfl).cell 4 rfl
  go_wp2_with fail
  refine (get_v (HC.tk (KB.refl W2) 1 rfl) hPO.out (some x) (get_put t name x)).mono ?_
  rintro e w6 ⟨a, rfl, ha, hb6⟩
  have HCn := HC.box (KB.step (KB.refl W2) hb6) ha
  clear ha hb6 HC
  clear qc c0 c1 c2 c3 c4
  go_upto_region 6 with fail
  obtain ⟨W3, g5, hW, hg, HC⟩ : ∃ W g, w6.alloc a.obj = W ∧ w6.heap.size = g ∧ Ctx w.heap.size w W [(g, a), (g4, z), (g3, y), (g1 + 1, q), (g1, r)] [(x, a), (t.cut name, z), (t.put name x, y), (x, q), (t, r)] := ⟨_, _, rfl, rfl, HCn⟩
  dsimp only [RV.obj] at hW
  rw [hW, hg]
  clear hW hg HCn
  have qc := HC.lt 1 rfl
  have c0 := (HC.at 1 rfl).cell 0 rfl
  have c1 := (HC.at 1 rfl).cell 1 rfl
  have c2 := (HC.at 1 rfl).cell 2 rfl
  have c3 := (HC.at 1 rfl).cell 3 rfl
  have c4 := (HC.at 1 rfl).cell 4 rfl
  go_wp2_with fail
  refine (get_v (HC.tk (KB.refl W3) 1 rfl) hCO.out none (get_cut t name)).mono ?_
  rintro e w7 ⟨a2, rfl, ha, hb7⟩
  have HCn := HC.box (KB.step (KB.refl W3) hb7) ha
  clear ha hb7 HC
  clear qc c0 c1 c2 c3 c4
  go_upto_region 7 with fail
  obtain ⟨W4, g6, hW, hg, HC⟩ : ∃ W g, w7.alloc a2.obj = W ∧ w7.heap.size = g ∧ Ctx w.heap.size w W [(g, a2), (g5, a), (g4, z), (g3, y), (g1 + 1, q), (g1, r)] [(JV.zero, a2), (x, a), (t.cut name, z), (t.put name x, y), (x, q), (t, r)] := ⟨_, _, rfl, rfl, HCn⟩
  dsimp only [RV.obj] at hW
  rw [hW, hg]
  clear hW hg HCn
  have qc := HC.lt 1 rfl
  have c0 := (HC.at 1 rfl).cell 0 rfl
  have c1 := (HC.at 1 rfl).cell 1 rfl
  have c2 := (HC.at 1 rfl).cell 2 rfl
  have c3 := (HC.at 1 rfl).cell 3 rfl
  have c4 := (HC.at 1 rfl).cell 4 rfl
  have qd := HC.lt 4 rfl
  have d0 := (HC.at 4 rfl).cell 0 rfl
  have d1 := (HC.at 4 rfl).cell 1 rfl
  have d2 := (HC.at 4 rfl).cell 2 rfl
  have d3 := (HC.at 4 rfl).cell 3 rfl
  have d4 := (HC.at 4 rfl).cell 4 rfl
  go_wp2_with fail
  refine (same5_eq (HC.tk (KB.refl W4) 1 rfl) (HC.tk (KB.refl W4) 4 rfl) HX.out).mono ?_
  rintro e w8 ⟨rfl, hb8⟩
  have hk8 := KB.step (KB.refl W4) hb8
  have hr8 := hk8.2
  clear qc c0 c1 c2 c3 c4 qd d0 d1 d2 d3 d4
  have qc := HC.lt 5 rfl
  have c0 := (HC.at 5 rfl).cell 0 rfl
  have c1 := (HC.at 5 rfl).cell 1 rfl
  have c2 := (HC.at 5 rfl).cell 2 rfl
  have c3 := (HC.at 5 rfl).cell 3 rfl
  have c4 := (HC.at 5 rfl).cell 4 rfl
  by_cases hon : other = name
  · have hq : (other.toList == name.toList) = true := by rw [str_beq]; simpa using hon
    clear hon
    go_wp2_with fail
    go_ret
    exact ⟨rfl, HC.fin hk8⟩
  have HON := Lib.hid hon
  have hq : (other.toList == name.toList) = false := by rw [str_beq]; simpa using hon
  clear hon
  obtain ⟨o, ho⟩ : ∃ o, t.get other = o := ⟨_, rfl⟩
  have HO := Lib.hid ho
  have HG := Lib.hid (ho ▸ get_ok (name := other) HT.out : (o.getD JV.zero).Ok)
  have HO1 := Lib.hid ((get_put_ne t name other x HON.out).trans ho)
  have HO2 := Lib.hid ((get_cut_ne t name other HON.out).trans ho)
  clear ho
  go_wp2_with fail
  refine (get_v (HC.tk hk8 5 rfl) HT.out o HO.out).mono ?_
  rintro e w9 ⟨b, rfl, ha, hb9⟩
  have HCn := HC.box (KB.step hk8 hb9) ha
  clear ha hb9 HC hk8 hb8 hr8
  clear qc c0 c1 c2 c3 c4
  go_upto_region 12 with fail
  obtain ⟨W5, g7, hW, hg, HC⟩ : ∃ W g, w9.alloc b.obj = W ∧ w9.heap.size = g ∧ Ctx w.heap.size w W [(g, b), (g6, a2), (g5, a), (g4, z), (g3, y), (g1 + 1, q), (g1, r)] [(o.getD JV.zero, b), (JV.zero, a2), (x, a), (t.cut name, z), (t.put name x, y), (x, q), (t, r)] := ⟨_, _, rfl, rfl, HCn⟩
  dsimp only [RV.obj] at hW
  rw [hW, hg]
  clear hW hg HCn
  have qc := HC.lt 4 rfl
  have c0 := (HC.at 4 rfl).cell 0 rfl
  have c1 := (HC.at 4 rfl).cell 1 rfl
  have c2 := (HC.at 4 rfl).cell 2 rfl
  have c3 := (HC.at 4 rfl).cell 3 rfl
  have c4 := (HC.at 4 rfl).cell 4 rfl
  go_wp2_with fail
  refine (get_v (HC.tk (KB.refl W5) 4 rfl) hPO.out o HO1.out).mono ?_
  rintro e w10 ⟨c, rfl, ha, hb9⟩
  have HCn := HC.box (KB.step (KB.refl W5) hb9) ha
  clear ha hb9 HC
  clear qc c0 c1 c2 c3 c4
  go_upto_region 13 with fail
  obtain ⟨W6, g8, hW, hg, HC⟩ : ∃ W g, w10.alloc c.obj = W ∧ w10.heap.size = g ∧ Ctx w.heap.size w W [(g, c), (g7, b), (g6, a2), (g5, a), (g4, z), (g3, y), (g1 + 1, q), (g1, r)] [(o.getD JV.zero, c), (o.getD JV.zero, b), (JV.zero, a2), (x, a), (t.cut name, z), (t.put name x, y), (x, q), (t, r)] := ⟨_, _, rfl, rfl, HCn⟩
  dsimp only [RV.obj] at hW
  rw [hW, hg]
  clear hW hg HCn
  have qz := HC.lt 4 rfl
  have u0 := (HC.at 4 rfl).cell 0 rfl
  have u1 := (HC.at 4 rfl).cell 1 rfl
  have u2 := (HC.at 4 rfl).cell 2 rfl
  have u3 := (HC.at 4 rfl).cell 3 rfl
  have u4 := (HC.at 4 rfl).cell 4 rfl
  go_wp2_with fail
  refine (get_v (HC.tk (KB.refl W6) 4 rfl) hCO.out o HO2.out).mono ?_
  rintro e w11 ⟨d, rfl, ha, hb9⟩
  have HCn := HC.box (KB.step (KB.refl W6) hb9) ha
  clear ha hb9 HC qz u0 u1 u2 u3 u4
  go_upto_region 14 with fail
  obtain ⟨W7, g9, hW, hg, HC⟩ : ∃ W g, w11.alloc d.obj = W ∧ w11.heap.size = g ∧ Ctx w.heap.size w W [(g, d), (g8, c), (g7, b), (g6, a2), (g5, a), (g4, z), (g3, y), (g1 + 1, q), (g1, r)] [(o.getD JV.zero, d), (o.getD JV.zero, c), (o.getD JV.zero, b), (JV.zero, a2), (x, a), (t.cut name, z), (t.put name x, y), (x, q), (t, r)] := ⟨_, _, rfl, rfl, HCn⟩
  dsimp only [RV.obj] at hW
  rw [hW, hg]
  clear hW hg HCn
  have qf := HC.lt 0 rfl
  have f0 := (HC.at 0 rfl).cell 0 rfl
  have f1 := (HC.at 0 rfl).cell 1 rfl
  have f2 := (HC.at 0 rfl).cell 2 rfl
  have f3 := (HC.at 0 rfl).cell 3 rfl
  have f4 := (HC.at 0 rfl).cell 4 rfl
  have qu := HC.lt 1 rfl
  have u0 := (HC.at 1 rfl).cell 0 rfl
  have u1 := (HC.at 1 rfl).cell 1 rfl
  have u2 := (HC.at 1 rfl).cell 2 rfl
  have u3 := (HC.at 1 rfl).cell 3 rfl
  have u4 := (HC.at 1 rfl).cell 4 rfl
  have qv := HC.lt 2 rfl
  have v0 := (HC.at 2 rfl).cell 0 rfl
  have v1 := (HC.at 2 rfl).cell 1 rfl
  have v2 := (HC.at 2 rfl).cell 2 rfl
  have v3 := (HC.at 2 rfl).cell 3 rfl
  have v4 := (HC.at 2 rfl).cell 4 rfl
  go_wp2_with fail
  refine (same5_eq (HC.tk (KB.refl W7) 2 rfl) (HC.tk (KB.refl W7) 1 rfl) HG.out).mono ?_
  rintro e w12 ⟨rfl, hb⟩
  have hk := KB.step (KB.refl W7) hb
  have hr := hk.2
  go_wp2_with fail
  refine (same5_eq (HC.tk hk 2 rfl) (HC.tk hk 0 rfl) HG.out).mono ?_
  rintro e w13 ⟨rfl, hb13⟩
  have hk13 := KB.step hk hb13
  go_wp2_with fail
  go_ret
  exact ⟨rfl, HC.fin hk13⟩
end Go.Proofs.Ytfpgkiajggfadaa
