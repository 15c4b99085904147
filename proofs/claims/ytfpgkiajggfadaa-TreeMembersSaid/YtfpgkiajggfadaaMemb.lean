/- The law of members, walked. -/
import Derived.Test.YtfpgkiajggfadaaTLaw
set_option linter.unusedSimpArgs false
set_option linter.unusedVariables false
namespace Go.Proofs.Ytfpgkiajggfadaa
open Go.RowKit Go.OpenShut

set_option maxRecDepth 200000 in
set_option maxHeartbeats 8000000 in
theorem treeMembers_any (w : World) (t x : JV) (r q : RV) (name : ByteArray) (ht : TreeOf w w.heap.size t r) (ot : t.Ok) (hx : TreeOf w w.heap.size x q) (ox : x.Ok) (hn : name.size ≤ 140737488351232) :
    Calls Try.prog 9 #[r.val, .string name, q.val] w fun e w' => e = .returned (.bool true) ∧ Below w.heap.size w w' := by
  have HC0 := ((((Ctx.nil w).know ht).know hx).alloc r).alloc q
  have HT := Lib.hid ot
  have HX := Lib.hid ox
  have HN := Lib.hid hn
  have HM := Lib.hid ht.nm_eq
  obtain ⟨o, ho⟩ : ∃ o, t.get name = o := ⟨_, rfl⟩
  have HO := Lib.hid ho
  have HG := Lib.hid (ho ▸ get_ok (name := name) ot : (o.getD JV.zero).Ok)
  clear ht ot hx ox hn ho
  go_enter Try.func9, Try.ntmps9
  go_upto_region 1 with fail
  obtain ⟨W, g1, hW, hg, HC⟩ : ∃ W g, ((w.alloc r.obj).alloc q.obj) = W ∧ w.heap.size = g ∧ Ctx w.heap.size w W [(g + 1, q), (g, r)] [(x, q), (t, r)] := ⟨_, _, rfl, rfl, by simpa using HC0⟩
  dsimp only [RV.obj] at hW
  rw [hW, hg]
  clear hW hg HC0
  have q0 := HC.lt 0 rfl
  have q1 := HC.lt 1 rfl
  have c0 := (HC.at 0 rfl).cell 0 rfl
  have c1 := (HC.at 0 rfl).cell 1 rfl
  have c2 := (HC.at 0 rfl).cell 2 rfl
  have c3 := (HC.at 0 rfl).cell 3 rfl
  have c4 := (HC.at 0 rfl).cell 4 rfl
  have d0 := (HC.at 1 rfl).cell 0 rfl
  have d1 := (HC.at 1 rfl).cell 1 rfl
  have d2 := (HC.at 1 rfl).cell 2 rfl
  have d3 := (HC.at 1 rfl).cell 3 rfl
  have d4 := (HC.at 1 rfl).cell 4 rfl
  go_wp2_with fail
  refine (tawake_any _).mono ?_
  rintro e w1 ⟨rfl, hb1⟩
  have hk1 := KB.step (KB.refl W) hb1
  have hr1 := hk1.2
  go_wp2_with fail
  refine (few7_any t r 5000 _ (HC.tk hk1 1 rfl) HT.out).mono ?_
  rintro e w2 ⟨b1, rfl, hL, hb2⟩
  have hk2 := KB.step hk1 hb2
  have hr2 := hk2.2
  cases b1 with
  | false =>
    go_wp2_with fail
    refine (tawake_any _).mono ?_
    rintro e w3 ⟨rfl, hb3⟩
    go_wp2_with fail
    go_ret
    exact ⟨rfl, HC.fin (KB.step hk2 hb3)⟩
  | true =>
  go_wp2_with fail
  refine (few7_any x q 5000 _ (HC.tk hk2 0 rfl) HX.out).mono ?_
  rintro e w3 ⟨b2, rfl, _, hb3⟩
  have hk3 := KB.step hk2 hb3
  have hr3 := hk3.2
  cases b2 with
  | false =>
    go_wp2_with fail
    refine (tawake_any _).mono ?_
    rintro e w4 ⟨rfl, hb4⟩
    go_wp2_with fail
    go_ret
    exact ⟨rfl, HC.fin (KB.step hk3 hb4)⟩
  | true =>
  go_wp2_with fail
  refine (get_v (HC.tk hk3 1 rfl) HT.out o HO.out).mono ?_
  rintro e w4 ⟨a, rfl, ha, hb4⟩
  have HC4 := HC.box (KB.step hk3 hb4) ha
  clear hk1 hk2 hk3 hr1 hr2 hr3 hb1 hb2 hb3 hb4 ha
  go_upto_region 4 with fail
  obtain ⟨W1, g3, hW, hg, HC1⟩ : ∃ W g, w4.alloc a.obj = W ∧ w4.heap.size = g ∧ Ctx w.heap.size w W [(g, a), (g1 + 1, q), (g1, r)] [(o.getD JV.zero, a), (x, q), (t, r)] := ⟨_, _, rfl, rfl, HC4⟩
  dsimp only [RV.obj] at hW
  rw [hW, hg]
  clear hW hg HC4 HC q0 q1 c0 c1 c2 c3 c4 d0 d1 d2 d3 d4
  have q0 := HC1.lt 2 rfl
  have c0 := (HC1.at 2 rfl).cell 0 rfl
  have c1 := (HC1.at 2 rfl).cell 1 rfl
  have c2 := (HC1.at 2 rfl).cell 2 rfl
  have c3 := (HC1.at 2 rfl).cell 3 rfl
  have c4 := (HC1.at 2 rfl).cell 4 rfl
  go_wp2_with fail
  refine (refGet_v (HC1.tk (KB.refl W1) 2 rfl) HT.out o HO.out).mono ?_
  rintro e w5 ⟨a', rfl, ha, hb5⟩
  have HC5 := HC1.box (KB.step (KB.refl W1) hb5) ha
  clear hb5 ha
  go_upto_region 5 with fail
  obtain ⟨W2, g4, hW, hg, HC2⟩ : ∃ W g, w5.alloc a'.obj = W ∧ w5.heap.size = g ∧ Ctx w.heap.size w W [(g, a'), (g3, a), (g1 + 1, q), (g1, r)] [(o.getD JV.zero, a'), (o.getD JV.zero, a), (x, q), (t, r)] := ⟨_, _, rfl, rfl, HC5⟩
  dsimp only [RV.obj] at hW
  rw [hW, hg]
  clear hW hg HC5 HC1 q0 c0 c1 c2 c3 c4
  have q0 := HC2.lt 0 rfl
  have q1 := HC2.lt 1 rfl
  have q2 := HC2.lt 2 rfl
  have q3 := HC2.lt 3 rfl
  have c0 := (HC2.at 0 rfl).cell 0 rfl
  have c1 := (HC2.at 0 rfl).cell 1 rfl
  have c2 := (HC2.at 0 rfl).cell 2 rfl
  have c3 := (HC2.at 0 rfl).cell 3 rfl
  have c4 := (HC2.at 0 rfl).cell 4 rfl
  have d0 := (HC2.at 1 rfl).cell 0 rfl
  have d1 := (HC2.at 1 rfl).cell 1 rfl
  have d2 := (HC2.at 1 rfl).cell 2 rfl
  have d3 := (HC2.at 1 rfl).cell 3 rfl
  have d4 := (HC2.at 1 rfl).cell 4 rfl
  have f0 := (HC2.at 2 rfl).cell 0 rfl
  have f1 := (HC2.at 2 rfl).cell 1 rfl
  have f2 := (HC2.at 2 rfl).cell 2 rfl
  have f3 := (HC2.at 2 rfl).cell 3 rfl
  have f4 := (HC2.at 2 rfl).cell 4 rfl
  have h0 := (HC2.at 3 rfl).cell 0 rfl
  have h1 := (HC2.at 3 rfl).cell 1 rfl
  have h2 := (HC2.at 3 rfl).cell 2 rfl
  have h3 := (HC2.at 3 rfl).cell 3 rfl
  have h4 := (HC2.at 3 rfl).cell 4 rfl
  have hL := hL.out trivial
  have hPO := Lib.hid (put_ok (name := name) HT.out HX.out HN.out (by rw [HM.out]; exact hL))
  have hCO := Lib.hid (cut_ok (name := name) HT.out)
  go_region_held3 (fun w' => Below W2.heap.size W2 w' ∧ ∀ b o, b < W2.heap.size → w'.cell? ⟨b, o, none⟩ = W2.cell? ⟨b, o, none⟩)
    (first | exact KB.drew W2 | exact hbk)
    (first
      | (go_at_call 28; refine (put_v (HC2.tk (by assumption) 3 rfl) HT.out (HC2.tk (by assumption) 2 rfl)).mono ?_; rintro e w6 ⟨y, rfl, hy, hb⟩; have hbk := KB.step (W := W2) (by assumption) hb)
      | (go_at_call 29; refine (refPut_v (HC2.tk (by assumption) 3 rfl) HT.out (HC2.tk (by assumption) 2 rfl)).mono ?_; rintro e w6 ⟨z, rfl, hz, hb⟩; (have hy2 := Lib.hid (hy.under hb hb.size)); have hbk := KB.step (W := W2) (by assumption) hb)
      | (go_at_call 30; refine (cut_v (HC2.tk (by assumption) 3 rfl) HT.out).mono ?_; rintro e w6 ⟨y', rfl, hy', hb⟩; have hbk := KB.step (W := W2) (by assumption) hb)
      | (go_at_call 31; refine (refCut_v (HC2.tk (by assumption) 3 rfl) HT.out).mono ?_; rintro e w6 ⟨z', rfl, hz', hb⟩; (have hy3 := Lib.hid (hy'.under hb hb.size)); have hbk := KB.step (W := W2) (by assumption) hb)
      | (go_at_call 27; (first | refine (same5_eq hy3.out hz' hCO.out).mono ?_ | refine (same5_eq hy2.out hz hPO.out).mono ?_ | refine (same5_eq (HC2.tk (by assumption) 1 rfl) (HC2.tk (by assumption) 0 rfl) HG.out).mono ?_); rintro e w6 ⟨rfl, hb⟩; have hbk := KB.step (W := W2) (by assumption) hb))
  go_wp2_with fail
  go_ret
  exact ⟨rfl, HC2.fin (by assumption)⟩
end Go.Proofs.Ytfpgkiajggfadaa
