import Derived.Test.YthgkgjcnmahacaaSc02
import Derived.Test.YthgkgjcnmahacaaSc10
import Derived.Test.YthgkgjcnmahacaaSc11
import Derived.Test.YthgkgjcnmahacaaSc12
import Derived.BigQuiet
import Derived.Deep.RegionHeld3
section
/- tree.With, walked. -/
set_option linter.unusedSimpArgs false
set_option linter.unusedVariables false
namespace Go.Proofs.Ythgkgjcnmahacaa
open Go.RowKit Go.OpenShut

theorem place_lt {t : JV} {name : ByteArray} {i : Nat} (h : t.place name = some i) : i < t.mem.length := by
  unfold JV.place at h
  rw [List.findIdx?_eq_some_iff_getElem] at h
  exact h.1

theorem VAt.set4 {W : World} {g : Nat} {r : RV} (h : VAt W g r) (p : Option Addr) (n c : Nat) : VAt (W.setCell ⟨g, 4, none⟩ (.slice p n c)) g { r with pm := p, nm := n, cm := c } := by
  unfold VAt at h ⊢
  simp [World.setCell, Array.getElem?_modify, h]

set_option maxRecDepth 100000 in
set_option maxHeartbeats 2000000 in
theorem with_any (t x : JV) (r q : RV) (name : ByteArray) (w : World) (B : Nat) (hBw : B ≤ w.heap.size) (ht : TreeOf w B t r) (ot : t.Ok) (hx : TreeOf w B x q) (hlen : t.mem.length ≤ 1466015503658) :
    Calls Try.prog 37 #[r.val, .string name, q.val] w (MapRet w B (putM (t.place name) t.mem name x)) := by
  obtain ⟨k, n, s, pl, nl, cl, pm, nm, cm⟩ := r
  obtain ⟨k2, n2, s2, pl2, nl2, cl2, pm2, nm2, cm2⟩ := q
  dsimp only [RV.val] at *
  have HT := Lib.hid ht
  have HO := Lib.hid ot
  have HX := Lib.hid hx
  have HL := Lib.hid hlen
  have hA0 : VAt (((w.alloc (.cells #[.int .i64 k, .int .i64 n, .string s, .slice pl nl cl, .slice pm nm cm] 25)).alloc (.cells #[.int .i64 k2, .int .i64 n2, .string s2, .slice pl2 nl2 cl2, .slice pm2 nm2 cm2] 25)).alloc (.cells #[.int .i64 0, .int .i64 0, .string ⟨#[]⟩, .slice none 0 0, .slice none 0 0] 25)) w.heap.size ⟨k, n, s, pl, nl, cl, pm, nm, cm⟩ := heap_alloc_lt (by simp; omega) (heap_alloc_lt (by simp) (heap_alloc_at rfl))
  have hA1 : VAt (((w.alloc (.cells #[.int .i64 k, .int .i64 n, .string s, .slice pl nl cl, .slice pm nm cm] 25)).alloc (.cells #[.int .i64 k2, .int .i64 n2, .string s2, .slice pl2 nl2 cl2, .slice pm2 nm2 cm2] 25)).alloc (.cells #[.int .i64 0, .int .i64 0, .string ⟨#[]⟩, .slice none 0 0, .slice none 0 0] 25)) (w.heap.size + 1) ⟨k2, n2, s2, pl2, nl2, cl2, pm2, nm2, cm2⟩ := heap_alloc_lt (by simp) (heap_alloc_at (by simp))
  have hA2 : VAt (((w.alloc (.cells #[.int .i64 k, .int .i64 n, .string s, .slice pl nl cl, .slice pm nm cm] 25)).alloc (.cells #[.int .i64 k2, .int .i64 n2, .string s2, .slice pl2 nl2 cl2, .slice pm2 nm2 cm2] 25)).alloc (.cells #[.int .i64 0, .int .i64 0, .string ⟨#[]⟩, .slice none 0 0, .slice none 0 0] 25)) (w.heap.size + 1 + 1) RV.zero := heap_alloc_at (by simp)
  have hB0 := (below2 w (.cells #[.int .i64 k, .int .i64 n, .string s, .slice pl nl cl, .slice pm nm cm] 25) (.cells #[.int .i64 k2, .int .i64 n2, .string s2, .slice pl2 nl2 cl2, .slice pm2 nm2 cm2] 25)).alloc (by simp; omega) (.cells #[.int .i64 0, .int .i64 0, .string ⟨#[]⟩, .slice none 0 0, .slice none 0 0] 25)
  clear ht ot hx hlen
  go_enter Try.func37, Try.ntmps37
  go_upto_region 1 with fail
  obtain ⟨W0, hW0⟩ : ∃ W0, (((w.alloc (.cells #[.int .i64 k, .int .i64 n, .string s, .slice pl nl cl, .slice pm nm cm] 25)).alloc (.cells #[.int .i64 k2, .int .i64 n2, .string s2, .slice pl2 nl2 cl2, .slice pm2 nm2 cm2] 25)).alloc (.cells #[.int .i64 0, .int .i64 0, .string ⟨#[]⟩, .slice none 0 0, .slice none 0 0] 25)) = W0 := ⟨_, rfl⟩
  rw [hW0] at hA0 hA1 hA2 hB0 ⊢
  clear hW0
  have p0 := hA0.cell 0 rfl
  have p1 := hA0.cell 1 rfl
  have p2 := hA0.cell 2 rfl
  have p3 := hA0.cell 3 rfl
  have p4 := hA0.cell 4 rfl
  have hzz : w.heap.size + 1 + 1 < W0.heap.size := hA2.lt
  go_upto_region 2 with (go_at_call 77; refine (members_any t ⟨k, n, s, pl, nl, cl, pm, nm, cm⟩ _ B (Nat.le_trans hBw hB0.size) (HT.out.under (hB0.mono hBw) (Nat.le_refl _)) HO.out).mono ?_; rintro e w1 ⟨pp, pn, pc, rms, rfl, ho1, hms1, hb1⟩)
  have hB1 : Below W0.heap.size W0 (w1.alloc (.cells #[.int .i64 6, .int .i64 0, .string ⟨#[]⟩, .slice none 0 0, .slice pp pn pc] 25)) := hb1.alloc hb1.size _
  have hA3 : VAt (w1.alloc (.cells #[.int .i64 6, .int .i64 0, .string ⟨#[]⟩, .slice none 0 0, .slice pp pn pc] 25)) w1.heap.size ⟨6, 0, ⟨#[]⟩, none, 0, 0, pp, pn, pc⟩ := heap_alloc_at rfl
  have ho2 := ho1.alloc (.cells #[.int .i64 6, .int .i64 0, .string ⟨#[]⟩, .slice none 0 0, .slice pp pn pc] 25)
  have hms2 : MemsOf (w1.alloc (.cells #[.int .i64 6, .int .i64 0, .string ⟨#[]⟩, .slice none 0 0, .slice pp pn pc] 25)) B t.mem rms := hms1.under ((Below.refl _ _).alloc (Nat.le_trans hBw (Nat.le_trans hB0.size hb1.size)) _) (Nat.le_refl _)
  have hp1 : ∀ g, (Value.slice pp pn pc).ownBlock = some g → W0.heap.size ≤ g ∧ g < w1.heap.size := ho1.lt
  obtain ⟨W1, hW1⟩ : ∃ W1, (w1.alloc (.cells #[.int .i64 6, .int .i64 0, .string ⟨#[]⟩, .slice none 0 0, .slice pp pn pc] 25)) = W1 := ⟨_, rfl⟩
  rw [hW1] at hB1 hA3 ho2 hms2 ⊢
  have hz1 : w1.heap.size < W1.heap.size := hA3.lt
  have hz0 : W0.heap.size ≤ w1.heap.size := hb1.size
  clear hW1 ho1 hms1 p0 p1 p2 p3 p4
  have p0 := (hA0.under hB1 (by omega)).cell 0 rfl
  have p1 := (hA0.under hB1 (by omega)).cell 1 rfl
  have p2 := (hA0.under hB1 (by omega)).cell 2 rfl
  have p3 := (hA0.under hB1 (by omega)).cell 3 rfl
  have p4 := (hA0.under hB1 (by omega)).cell 4 rfl
  go_upto_region 3 with (go_at_call 78; refine (place_any t ⟨k, n, s, pl, nl, cl, pm, nm, cm⟩ name _ (HT.out.under ((hB0.trans (hB1.mono hB0.size)).mono hBw) (Nat.le_trans hBw (hB0.trans (hB1.mono hB0.size)).size)) HO.out).mono ?_; rintro e w2 ⟨rfl, hb2⟩)
  clear p0 p1 p2 p3 p4
  have hB2 : Below W0.heap.size W0 w2 := hB1.trans (hb2.mono hB1.size)
  have HA1 := hA1.under hB2 (by omega)
  have HA2 := hA2.under hB2 (by omega)
  have HA3 := hA3.under hb2 hz1
  have ho3 := ho2.below hb2 (Nat.le_refl _)
  have HMS := Lib.hid (hms2.under (hb2.mono (by have := hB0.size; omega)) (Nat.le_refl _))
  have HX2 := Lib.hid (HX.out.under ((hB0.trans (hB2.mono hB0.size)).mono hBw) (Nat.le_refl _))
  clear hms2 ho2 hA0 hA1 hA2 hA3
  have p0 := HA1.cell 0 rfl
  have p1 := HA1.cell 1 rfl
  have p2 := HA1.cell 2 rfl
  have p3 := HA1.cell 3 rfl
  have p4 := HA1.cell 4 rfl
  have m0 := HA3.cell 0 rfl
  have m1 := HA3.cell 1 rfl
  have m2 := HA3.cell 2 rfl
  have m3 := HA3.cell 3 rfl
  have m4 := HA3.cell 4 rfl
  have z0 := HA2.cell 0 rfl
  have z1 := HA2.cell 1 rfl
  have z2 := HA2.cell 2 rfl
  have z3 := HA2.cell 3 rfl
  have z4 := HA2.cell 4 rfl
  dsimp only [RV.zero] at p0 p1 p2 p3 p4 m0 m1 m2 m3 m4 z0 z1 z2 z3 z4
  have y0 := HA2.frozen 0
  have y1 := HA2.frozen 1
  have y2 := HA2.frozen 2
  have y3 := HA2.frozen 3
  have y4 := HA2.frozen 4
  have x4 := HA3.frozen 4
  have HZ := Lib.hid HA2
  have HY := Lib.hid HA3
  clear HA1 HA2 HA3
  generalize hp : t.place name = o
  cases o with
  | some i =>
    have hi := place_lt hp
    have HP := Lib.hid hp
    have hir : i < rms.length := by rw [← HMS.out.len]; exact hi
    obtain ⟨rm, hrm⟩ : ∃ rm, rms[i]? = some rm := ⟨_, List.getElem?_eq_getElem hir⟩
    obtain ⟨g, rfl, hpn, hg1, hg2, hcell, hfr⟩ := Own.at codecM ho3 hrm
    have hn : placeI (some i) = (i : Int) := rfl
    rw [hn]
    have hi0 : (0 : Int) ≤ (i : Int) := Int.natCast_nonneg _
    have hi1 : (i : Int) < (pn : Int) := by omega
    have e1 := hcell 1 _ rfl
    have e2 := hcell 2 _ rfl
    have e3 := hcell 3 _ rfl
    have e4 := hcell 4 _ rfl
    have e5 := hcell 5 _ rfl
    have k1 := hfr (i * 6 + 1)
    have k2' := hfr (i * 6 + 2)
    have k3 := hfr (i * 6 + 3)
    have k4 := hfr (i * 6 + 4)
    have k5 := hfr (i * 6 + 5)
    have HS := Lib.hid (Own.storedV ho3 hrm ⟨k2, n2, s2, pl2, nl2, cl2, pm2, nm2, cm2⟩)
    have hne : rm.name = name := by
      obtain ⟨p, h1, h2⟩ := getM hp
      rw [← h2]
      exact (HMS.out.name i p rm h1 hrm).symm
    have HPUT := Lib.hid (HMS.out.set i (p := (name, x)) (q := ⟨rm.name, ⟨k2, n2, s2, pl2, nl2, cl2, pm2, nm2, cm2⟩⟩) hne.symm HX2.out)
    clear hn hp hcell hfr hpn hrm hne
    go_upto_region 5 with fail
    obtain ⟨w3, hw3⟩ : ∃ w3, ((((w2.setCell ⟨g, i * 6 + 1, none⟩ (.int .i64 k2)).setCell ⟨g, i * 6 + 1 + 1, none⟩ (.int .i64 n2)).setCell ⟨g, i * 6 + 1 + 2, none⟩ (.string s2)).setCell ⟨g, i * 6 + 1 + 3, none⟩ (.slice pl2 nl2 cl2)).setCell ⟨g, i * 6 + 1 + 4, none⟩ (.slice pm2 nm2 cm2) = w3 := ⟨_, rfl⟩
    have ho4 : Own w3 W0.heap.size 90 encM 6 (.slice (some ⟨g, 0, none⟩) pn pc) (rms.set i ⟨rm.name, ⟨k2, n2, s2, pl2, nl2, cl2, pm2, nm2, cm2⟩⟩) := by rw [← hw3]; exact HS.out.1
    have hg4 : w2.grownBy w3 (some g) := by rw [← hw3]; exact HS.out.2
    rw [hw3]
    clear hw3 HS e1 e2 e3 e4 e5 k1 k2' k3 k4 k5
    have hb4 : Below W0.heap.size w2 w3 := (Below.refl _ _).grown hg4 hB2.size (fun j e => by cases e; exact hg1)
    have hg7 : g ≠ w1.heap.size := by have := hp1 g rfl; omega
    have HZ4 : VAt w3 (w.heap.size + 1 + 1) RV.zero := HZ.out.under hb4 (by omega)
    have HY4 : VAt w3 w1.heap.size ⟨6, 0, ⟨#[]⟩, none, 0, 0, some ⟨g, 0, none⟩, pn, pc⟩ := (hg4.block _ (by have := hb2.size; omega) (fun h => hg7 (by cases h; rfl))).trans HY.out
    clear z0 z1 z2 z3 z4 m0 m1 m2 m3 m4 y0 y1 y2 y3 y4
    have m0 := HY4.cell 0 rfl
    have m1 := HY4.cell 1 rfl
    have m2 := HY4.cell 2 rfl
    have m3 := HY4.cell 3 rfl
    have m4 := HY4.cell 4 rfl
    have z0 := HZ4.cell 0 rfl
    have z1 := HZ4.cell 1 rfl
    have z2 := HZ4.cell 2 rfl
    have z3 := HZ4.cell 3 rfl
    have z4 := HZ4.cell 4 rfl
    dsimp only [RV.zero] at m0 m1 m2 m3 m4 z0 z1 z2 z3 z4
    have y0 := HZ4.frozen 0
    have y1 := HZ4.frozen 1
    have y2 := HZ4.frozen 2
    have y3 := HZ4.frozen 3
    have y4 := HZ4.frozen 4
    go_wp2_with fail
    have hB4 : Below w.heap.size w w3 := hB0.trans ((hB2.trans hb4).mono hB0.size)
    refine bodyPost_ret (v := RV.val ⟨6, 0, ⟨#[]⟩, none, 0, 0, some ⟨g, 0, none⟩, pn, pc⟩) (by simp [results, Try.results37, go_sem, z0, z1, z2, z3, z4]) rfl ⟨some ⟨g, 0, none⟩, pn, pc, rms.set i ⟨rm.name, ⟨k2, n2, s2, pl2, nl2, cl2, pm2, nm2, cm2⟩⟩, rfl, ?_, ?_, Below.stored hB4 (by omega) ⟨6, 0, ⟨#[]⟩, none, 0, 0, some ⟨g, 0, none⟩, pn, pc⟩⟩
    · exact (ho4.mono hB0.size).kept (grownBy_set5 w3 (w.heap.size + 1 + 1) ⟨6, 0, ⟨#[]⟩, none, 0, 0, some ⟨g, 0, none⟩, pn, pc⟩) (.inr (by simp [Value.ownBlock]; omega))
    · rw [HP.out]
      exact (HPUT.out.under (hb4.mono (Nat.le_trans hBw hB0.size)) (Nat.le_refl _)).under (Below.stored (Below.refl _ _) (by omega) ⟨6, 0, ⟨#[]⟩, none, 0, 0, some ⟨g, 0, none⟩, pn, pc⟩) (Nat.le_refl _)
  | none =>
    have HP := Lib.hid hp
    have hn : placeI (none : Option Nat) = -1 := rfl
    rw [hn]
    have hrl : rms.length = t.mem.length := HMS.out.len.symm
    have HRL := Lib.hid hrl
    have HW := Lib.hid hB2.size
    clear hn hp hrl
    have hL2 := HL.out
    have hne : ∀ g, (Value.slice pp pn pc).ownBlock = some g → W0.heap.size ≤ g ∧ g < w1.heap.size := hp1
    have HNE := Lib.hid hne
    have HYA : Hid (VAt (w2.alloc (.cells #[.string name, .int .i64 k2, .int .i64 n2, .string s2, .slice pl2 nl2 cl2, .slice pm2 nm2 cm2] 90)) w1.heap.size ⟨6, 0, ⟨#[]⟩, none, 0, 0, pp, pn, pc⟩) := heap_alloc_lt (by have := hb2.size; omega) HY.out
    have HZA : Hid (VAt (w2.alloc (.cells #[.string name, .int .i64 k2, .int .i64 n2, .string s2, .slice pl2 nl2 cl2, .slice pm2 nm2 cm2] 90)) (w.heap.size + 1 + 1) RV.zero) := heap_alloc_lt (by have := hb2.size; omega) HZ.out
    have hz2 := hb2.size
    clear hne hp1
    go_upto_region 7 with (at_builtin; refine wpList_append_rd slM codecM (w2.alloc (.cells #[.string name, .int .i64 k2, .int .i64 n2, .string s2, .slice pl2 nl2 cl2, .slice pm2 nm2 cm2] 90)) rfl (.tmp 25) (.tmp 29) rfl (v := .slice pp pn pc) rfl rfl (ho3.alloc _) (Rd.one (B := w2.heap.size + 1) (x := (⟨name, ⟨k2, n2, s2, pl2, nl2, cl2, pm2, nm2, cm2⟩⟩ : RM)) codecM (heap_alloc_new _ _) rfl (by omega)) (by have := HRL.out; simp; unfold maxLen; omega) (by have := HRL.out; simp; omega) (by have := HW.out; simp; omega) ?_; intro v3 w3 ho4 hg4 hat4; obtain ⟨p3, c3, hv3, hq1, hq2⟩ := ho4.len; rw [List.length_append, List.length_singleton] at hv3; subst hv3; clear hq1 hq2; (have HY3 : VAt w3 w1.heap.size ⟨6, 0, ⟨#[]⟩, none, 0, 0, pp, pn, pc⟩ := (hg4.block _ (by simp; omega) (fun h => by have := (HNE.out _ h.symm).2; omega)).trans HYA.out); (have m4' := HY3.cell 4 rfl); (have x4' := HY3.frozen 4); (have HY4 := Lib.hid (HY3.set4 p3 (rms.length + 1) c3)); clear HY3; go_frame)
    have hBo : Below W0.heap.size w2 w3 := Below.appended ((Below.refl _ _).alloc hB2.size _) hg4 (ho3.alloc _) (by have := HW.out; simp; omega)
    have HZ3 : VAt w3 (w.heap.size + 1 + 1) RV.zero := HZ.out.under hBo (by omega)
    have hlt3 := ho4.lt
    obtain ⟨w4, hw4⟩ : ∃ w4, w3.setCell ⟨w1.heap.size, 4, none⟩ (.slice p3 (rms.length + 1) c3) = w4 := ⟨_, rfl⟩
    have HY4' : VAt w4 w1.heap.size ⟨6, 0, ⟨#[]⟩, none, 0, 0, p3, rms.length + 1, c3⟩ := by rw [← hw4]; exact HY4.out
    have hg5 : w3.grownBy w4 (some w1.heap.size) := by rw [← hw4]; exact grownBy_set _ _ _ _
    rw [hw4]
    clear hw4 HY4 m4' x4'
    have hne5 : ∀ j, (Value.slice p3 (rms.length + 1) c3).ownBlock = some j → j ≠ w1.heap.size := by
      intro j hj e
      subst e
      rcases hat4 with h | h
      · rw [hj] at h
        have := (HNE.out _ h.symm).2
        omega
      · rw [hj] at h
        simp at h
        omega
    have ho5 := ho4.kept hg5 (by
      cases hob : (Value.slice p3 (rms.length + 1) c3).ownBlock with
      | none => exact .inl rfl
      | some j => exact .inr (fun h => hne5 j hob (by injection h)))
    have hB5 : Below W0.heap.size w2 w4 := hBo.grown hg5 (by have := hBo.size; have := HW.out; omega) (fun j e => by cases e; exact hz0)
    have HZ5 : VAt w4 (w.heap.size + 1 + 1) RV.zero := HZ.out.under hB5 (by omega)
    clear z0 z1 z2 z3 z4 m0 m1 m2 m3 m4 y0 y1 y2 y3 y4 p0 p1 p2 p4 x4
    have m0 := HY4'.cell 0 rfl
    have m1 := HY4'.cell 1 rfl
    have m2 := HY4'.cell 2 rfl
    have m3 := HY4'.cell 3 rfl
    have m4 := HY4'.cell 4 rfl
    have z0 := HZ5.cell 0 rfl
    have z1 := HZ5.cell 1 rfl
    have z2 := HZ5.cell 2 rfl
    have z3 := HZ5.cell 3 rfl
    have z4 := HZ5.cell 4 rfl
    dsimp only [RV.zero] at m0 m1 m2 m3 m4 z0 z1 z2 z3 z4
    have y0 := HZ5.frozen 0
    have y1 := HZ5.frozen 1
    have y2 := HZ5.frozen 2
    have y3 := HZ5.frozen 3
    have y4 := HZ5.frozen 4
    have HO5 := Lib.hid ho5
    have HB4 : Hid (Below w.heap.size w w4) := hB0.trans ((hB2.trans hB5).mono hB0.size)
    have HPUT := Lib.hid ((HMS.out.snoc (p := (name, x)) (q := ⟨name, ⟨k2, n2, s2, pl2, nl2, cl2, pm2, nm2, cm2⟩⟩) rfl HX2.out).under (hB5.mono (Nat.le_trans hBw hB0.size)) (Nat.le_refl _))
    clear ho5 ho4 hne5 hg4 hat4 hg5 ho3 hlt3
    go_wp2_with fail
    refine bodyPost_ret (v := RV.val ⟨6, 0, ⟨#[]⟩, none, 0, 0, p3, rms.length + 1, c3⟩) (by simp [results, Try.results37, go_sem, z0, z1, z2, z3, z4]) rfl ⟨p3, rms.length + 1, c3, rms ++ [⟨name, ⟨k2, n2, s2, pl2, nl2, cl2, pm2, nm2, cm2⟩⟩], rfl, ?_, ?_, Below.stored HB4.out (by omega) ⟨6, 0, ⟨#[]⟩, none, 0, 0, p3, rms.length + 1, c3⟩⟩
    · have hlt := HO5.out.lt
      refine (HO5.out.mono hB0.size).kept (grownBy_set5 w4 (w.heap.size + 1 + 1) ⟨6, 0, ⟨#[]⟩, none, 0, 0, p3, rms.length + 1, c3⟩) ?_
      cases hob : (Value.slice p3 (rms.length + 1) c3).ownBlock with
      | none => exact .inl rfl
      | some j =>
        refine .inr (fun h => ?_)
        have := (hlt j hob).1
        injection h with h
        omega
    · rw [HP.out]
      exact HPUT.out.under (Below.stored (Below.refl _ _) (by omega) ⟨6, 0, ⟨#[]⟩, none, 0, 0, p3, rms.length + 1, c3⟩) (Nat.le_refl _)
end Go.Proofs.Ythgkgjcnmahacaa
end

section
/- A call's own boxes and what is known of trees, carried from world to world. -/
set_option linter.unusedSimpArgs false
set_option linter.unusedVariables false
namespace Go.Proofs.Ythgkgjcnmahacaa
open Go.RowKit Go.OpenShut

/-- Below B the world is as W was. -/
def KB (B : Nat) (W w : World) : Prop := Below B W w ∧ ∀ b o, b < B → w.cell? ⟨b, o, none⟩ = W.cell? ⟨b, o, none⟩
theorem KB.mk {B : Nat} {W w : World} (h : Below B W w) : KB B W w := ⟨h, fun b o hb => h.cell (p := ⟨b, o, none⟩) hb⟩
theorem KB.fin {b B : Nat} {w W w' : World} (hk : KB B W w') (h : Below b w W) (hb : b ≤ B) : Below b w w' := h.trans (hk.1.mono hb)
theorem KB.refl (W : World) : KB W.heap.size W W := KB.mk (Below.refl _ _)
theorem KB.step {W w w' : World} (hk : KB W.heap.size W w) (h : Below w.heap.size w w') : KB W.heap.size W w' := KB.mk (hk.1.trans (h.mono hk.1.size))
theorem KB.drew (W : World) : KB W.heap.size W W.drew := KB.mk (Below.refl _ _).drew

/-- A value in a box of its own. -/
abbrev RV.obj (r : RV) : Obj := .cells #[.int .i64 r.k, .int .i64 r.n, .string r.s, .slice r.pl r.nl r.cl, .slice r.pm r.nm r.cm] 25

/-- What a walk knows at the world W: the boxes L, the trees T. -/
structure Ctx (b : Nat) (w0 W : World) (L : List (Nat × RV)) (T : List (JV × RV)) : Prop where
  below : Below b w0 W
  le : b ≤ W.heap.size
  loc : ∀ (i g : Nat) (r : RV), L[i]? = some (g, r) → g < W.heap.size ∧ VAt W g r
  tree : ∀ (i : Nat) (t : JV) (r : RV), T[i]? = some (t, r) → TreeOf W W.heap.size t r
theorem Ctx.nil (w : World) : Ctx w.heap.size w w [] [] := ⟨Below.refl _ _, Nat.le_refl _, fun i g r h => by simp at h, fun i t r h => by simp at h⟩
section
variable {b : Nat} {w0 W w : World} {L : List (Nat × RV)} {T : List (JV × RV)} (h : Ctx b w0 W L T)
include h
theorem Ctx.go (hb : Below W.heap.size W w) : Ctx b w0 w L T :=
  ⟨h.below.trans (hb.mono h.le), Nat.le_trans h.le hb.size, fun i g r hi => ⟨Nat.lt_of_lt_of_le (h.loc i g r hi).1 hb.size, (h.loc i g r hi).2.under hb (h.loc i g r hi).1⟩, fun i t r hi => (h.tree i t r hi).under hb hb.size⟩
theorem Ctx.alloc (x : RV) : Ctx b w0 (W.alloc x.obj) ((W.heap.size, x) :: L) T := by
  have g := h.go ((Below.refl _ _).alloc (Nat.le_refl _) x.obj)
  refine ⟨g.below, g.le, fun i k r hi => ?_, g.tree⟩
  cases i with
  | zero =>
    cases hi
    exact ⟨by simp, heap_alloc_at rfl⟩
  | succ i => exact g.loc i k r hi
theorem Ctx.know {t : JV} {x : RV} (hx : TreeOf W W.heap.size t x) : Ctx b w0 W L ((t, x) :: T) := by
  refine ⟨h.below, h.le, h.loc, fun i u r hi => ?_⟩
  cases i with
  | zero => cases hi; exact hx
  | succ i => exact h.tree i u r hi
theorem Ctx.box (hk : KB W.heap.size W w) {t : JV} {x : RV} (hx : TreeOf w w.heap.size t x) : Ctx b w0 (w.alloc x.obj) ((w.heap.size, x) :: L) ((t, x) :: T) :=
  ((h.go hk.1).know hx).alloc x
theorem Ctx.tk (hk : KB W.heap.size W w) (i : Nat) {t : JV} {r : RV} (hi : T[i]? = some (t, r)) : TreeOf w w.heap.size t r := (h.tree i t r hi).under hk.1 hk.1.size
theorem Ctx.lt (i : Nat) {g : Nat} {r : RV} (hi : L[i]? = some (g, r)) : g < W.heap.size := (h.loc i g r hi).1
theorem Ctx.at (i : Nat) {g : Nat} {r : RV} (hi : L[i]? = some (g, r)) : VAt W g r := (h.loc i g r hi).2
theorem Ctx.fin (hk : KB W.heap.size W w) : Below b w0 w := h.below.trans (hk.1.mono h.le)
end
end Go.Proofs.Ythgkgjcnmahacaa
end

section
/- store.Put: what it says, and the ways on which nothing is put in; walked. -/
set_option linter.unusedSimpArgs false
set_option linter.unusedVariables false
namespace Go.Proofs.Ythgkgjcnmahacaa
open Go.RowKit Go.OpenShut

/-- The value at the place of an id. -/
def oldV (os : List (ByteArray × JV)) (id : ByteArray) : JV := ((os[lowN os id]?).map (·.2)).getD JV.zero
open Classical in
/-- What Put answers: the box, and why not. -/
noncomputable def putB (b : BoxD) (id : ByteArray) (v : JV) : BoxD × Int :=
  if isAt b.objs id = true then
    if SameT (oldV b.objs id) v then (b, 0) else if 9007199254740991 ≤ b.seq then (BoxD.zero, 180) else (chgB b (b.objs.set (lowN b.objs id) (id, v)) id 2, 0)
  else if toldB b.trail id = true then (BoxD.zero, 181) else if 9007199254740991 ≤ b.seq then (BoxD.zero, 180) else (chgB b (b.objs.take (lowN b.objs id) ++ (id, v) :: b.objs.drop (lowN b.objs id)) id 1, 0)
/-- A box and a number are told. -/
def BoxErr (w : World) (p : BoxD × Int) (e : Ending) (w' : World) : Prop := ∃ q, e = .returned (.tuple #[RB.val q, .int .i64 p.2]) ∧ NewBox w' w.heap.size w.heap.size p.1 q ∧ Below w.heap.size w w'
theorem NewBox.zero (w : World) (base B : Nat) : NewBox w base B BoxD.zero RB.zero := ⟨⟨[], Own.nil _ _ _, MemsOf.nil _ _⟩, Own.nil _ _ _, fun e h => by simp [BoxD.zero] at h, rfl, rfl, rfl⟩

/-- Put's own variables: the box, the id, the value, what is answered. -/
structure PutS (w W : World) (r : RB) (id : ByteArray) (v : RV) : Prop where
  box : BoxAt W w.heap.size r
  str : W.heap[w.heap.size + 1]? = some (.cells #[.string id] 9 (0, 0))
  val : VAt W (w.heap.size + 1 + 1) v
  zero : BoxAt W (w.heap.size + 1 + 1 + 1) RB.zero
  below : Below w.heap.size w W
section
variable {w W W' : World} {r : RB} {id : ByteArray} {v : RV} (h : PutS w W r id v)
include h
theorem PutS.size : w.heap.size + 1 + 1 + 1 < W.heap.size := h.zero.lt
theorem PutS.sizes : w.heap.size < W.heap.size ∧ w.heap.size + 1 < W.heap.size ∧ w.heap.size + 1 + 1 < W.heap.size := by have := h.size; omega
theorem PutS.scell : W.cell? ⟨w.heap.size + 1, 0, none⟩ = some (.string id) := by rw [cell_of_row W _ 0 _ _ _ h.str]; rfl
theorem PutS.go (hb : Below W.heap.size W W') : PutS w W' r id v :=
  ⟨h.box.under hb h.sizes.1, (hb.block _ h.sizes.2.1).trans h.str, h.val.under hb h.sizes.2.2, h.zero.under hb h.size, h.below.trans (hb.mono h.below.size)⟩
theorem PutS.setBox (q : RB) (hq : BoxAt W' w.heap.size q) (hg : W.grownBy W' (some w.heap.size)) : PutS w W' q id v :=
  ⟨hq, (hg.block _ h.sizes.2.1 (by simp)).trans h.str, (hg.block _ h.sizes.2.2 (by simp; omega)).trans h.val, h.zero.kept hg (by omega), h.below.grown hg h.below.size (fun a e => by cases e; exact Nat.le_refl _)⟩
theorem PutS.row {row : Option Nat} (hg : W.grownBy W' row) (hr : ∀ k, row = some k → w.heap.size + 1 + 1 + 1 < k) : PutS w W' r id v := by
  have hz := h.size
  have hb : ∀ k, k ≤ w.heap.size + 1 + 1 + 1 → W'.heap[k]? = W.heap[k]? := fun k hk => hg.block k (by omega) (fun e => by have := hr k e.symm; omega)
  exact ⟨(hb _ (by omega)).trans h.box, (hb _ (by omega)).trans h.str, (hb _ (by omega)).trans h.val, (hb _ (by omega)).trans h.zero, h.below.grown hg h.below.size (fun a e => by have := hr a e; omega)⟩
theorem PutS.other {g : Nat} (hg : W.grownBy W' (some g)) (hgw : W.heap.size ≤ g ∨ w.heap.size + 1 + 1 + 1 < g) : PutS w W' r id v := by
  have hz := h.size
  exact ⟨h.box.kept hg (by omega), (hg.block _ h.sizes.2.1 (by simp; omega)).trans h.str, (hg.block _ h.sizes.2.2 (by simp; omega)).trans h.val, h.zero.kept hg (by omega), h.below.grown hg h.below.size (fun a e => by cases e; omega)⟩
end
theorem PutS.start (w : World) (r : RB) (id : ByteArray) (v : RV) : PutS w ((((w.alloc (.cells #[.slice r.po r.no r.co, .slice r.pt r.nt r.ct, .int .i64 r.sq, .int .i64 r.fl, .int .i64 r.kp] 35)).alloc (.cells #[.string id] 9)).alloc (.cells #[.int .i64 v.k, .int .i64 v.n, .string v.s, .slice v.pl v.nl v.cl, .slice v.pm v.nm v.cm] 25)).alloc (.cells #[.slice none 0 0, .slice none 0 0, .int .i64 0, .int .i64 0, .int .i64 0] 35)) r id v :=
  ⟨heap_alloc_lt (by simp <;> omega) (heap_alloc_lt (by simp <;> omega) (heap_alloc_lt (by simp) (heap_alloc_at rfl))), heap_alloc_lt (by simp <;> omega) (heap_alloc_lt (by simp) (heap_alloc_at (by simp))), heap_alloc_lt (by simp) (heap_alloc_at (by simp)), heap_alloc_at (by simp),
    (((Below.refl _ _).alloc (Nat.le_refl _) _).alloc (by simp) _ |>.alloc (by simp <;> omega) _).alloc (by simp <;> omega) _⟩

theorem Own.storedVO {w : World} {base : Nat} {g n cap : Nat} {xs : List RM} (h : Own w base 46 encM 6 (.slice (some ⟨g, 0, none⟩) n cap) xs) {k : Nat} {x : RM} (hx : xs[k]? = some x) (q : RV) :
    Own (((((w.setCell ⟨g, k * 6 + 1, none⟩ (.int .i64 q.k)).setCell ⟨g, k * 6 + 2, none⟩ (.int .i64 q.n)).setCell ⟨g, k * 6 + 3, none⟩ (.string q.s)).setCell ⟨g, k * 6 + 4, none⟩ (.slice q.pl q.nl q.cl)).setCell ⟨g, k * 6 + 5, none⟩ (.slice q.pm q.nm q.cm)) base 46 encM 6 (.slice (some ⟨g, 0, none⟩) n cap) (xs.set k ⟨x.name, q⟩) ∧
    w.grownBy (((((w.setCell ⟨g, k * 6 + 1, none⟩ (.int .i64 q.k)).setCell ⟨g, k * 6 + 2, none⟩ (.int .i64 q.n)).setCell ⟨g, k * 6 + 3, none⟩ (.string q.s)).setCell ⟨g, k * 6 + 4, none⟩ (.slice q.pl q.nl q.cl)).setCell ⟨g, k * 6 + 5, none⟩ (.slice q.pm q.nm q.cm)) (some g) := by
  have hk := (List.getElem?_eq_some_iff.1 hx).1
  have e : ∀ (y : RM) (z : RM), (xs.set k y)[k]? = some y := fun y z => by simp [List.getElem?_set, hk]
  have s1 := Own.storedAt codecM h (j := 1) (y := ⟨x.name, ⟨q.k, x.v.n, x.v.s, x.v.pl, x.v.nl, x.v.cl, x.v.pm, x.v.nm, x.v.cm⟩⟩) (u := .int .i64 q.k) hx (by decide) rfl
  have s2 := Own.storedAt codecM s1.1 (j := 2) (y := ⟨x.name, ⟨q.k, q.n, x.v.s, x.v.pl, x.v.nl, x.v.cl, x.v.pm, x.v.nm, x.v.cm⟩⟩) (u := .int .i64 q.n) (e _ x) (by decide) rfl
  simp only [List.set_set] at s2
  have s3 := Own.storedAt codecM s2.1 (j := 3) (y := ⟨x.name, ⟨q.k, q.n, q.s, x.v.pl, x.v.nl, x.v.cl, x.v.pm, x.v.nm, x.v.cm⟩⟩) (u := .string q.s) (e _ x) (by decide) rfl
  simp only [List.set_set] at s3
  have s4 := Own.storedAt codecM s3.1 (j := 4) (y := ⟨x.name, ⟨q.k, q.n, q.s, q.pl, q.nl, q.cl, x.v.pm, x.v.nm, x.v.cm⟩⟩) (u := .slice q.pl q.nl q.cl) (e _ x) (by decide) rfl
  simp only [List.set_set] at s4
  have s5 := Own.storedAt codecM s4.1 (j := 5) (y := ⟨x.name, q⟩) (u := .slice q.pm q.nm q.cm) (e _ x) (by decide) rfl
  simp only [List.set_set] at s5
  exact ⟨s5.1, (((s1.2.trans s2.2).trans s3.2).trans s4.2).trans s5.2⟩

theorem NewBox.ne {W : World} {base B g : Nat} {b : BoxD} {r : RB} (h : NewBox W base B b r) (hg : g < base) : (Value.slice r.po r.no r.co).ownBlock ≠ some g ∧ (Value.slice r.pt r.nt r.ct).ownBlock ≠ some g := by
  obtain ⟨ros, h1, _⟩ := h.objs
  exact ⟨fun e => by have := (h1.lt _ e).1; omega, fun e => by have := (h.trail.lt _ e).1; omega⟩
/-- Slices of unlike elements lie in unlike blocks. -/
theorem Own.unlike {α β : Type} {e1 : α → List Value} {e2 : β → List Value} {s1 s2 b1 b2 : Nat} {t1 t2 : TypeId} {w : World} {v1 v2 : Value} {xs : List α} {ys : List β} (h1 : Own w b1 t1 e1 s1 v1 xs) (h2 : Own w b2 t2 e2 s2 v2 ys) (hne : t1 ≠ t2) {k : Nat} (hk : v1.ownBlock = some k) : v2.ownBlock ≠ some k := by
  intro hk2
  obtain ⟨_, h1⟩ := h1
  obtain ⟨_, h2⟩ := h2
  rcases h1 with ⟨rfl, _⟩ | ⟨g, cap, cur, rfl, _, hh, _⟩
  · simp [Value.ownBlock] at hk
  · rcases h2 with ⟨rfl, _⟩ | ⟨g', cap', cur', rfl, _, hh', _⟩
    · simp [Value.ownBlock] at hk2
    · simp only [Value.ownBlock, Option.some.injEq] at hk hk2
      subst hk
      subst hk2
      rw [hh] at hh'
      simp only [Option.some.injEq, Obj.cells.injEq] at hh'
      exact hne hh'.2.1
theorem MemsOf.insert {w : World} {B : Nat} {ms : List (ByteArray × JV)} {rms : List RM} (h : MemsOf w B ms rms) (i : Nat) {p : ByteArray × JV} {q : RM} (hn : p.1 = q.name) (ht : TreeOf w B p.2 q.v) : MemsOf w B (ms.take i ++ p :: ms.drop i) (rms.take i ++ q :: rms.drop i) := by
  have hl := h.len
  have key : ∀ (j : Nat) a c, (ms.take i ++ p :: ms.drop i)[j]? = some a → (rms.take i ++ q :: rms.drop i)[j]? = some c → a.1 = c.name ∧ TreeOf w B a.2 c.v := by
    intro j a c h1 h2
    have hlt : (ms.take i).length = (rms.take i).length := by simp [hl]
    by_cases hj : j < (ms.take i).length
    · rw [List.getElem?_append_left hj, List.getElem?_take] at h1
      rw [List.getElem?_append_left (by omega), List.getElem?_take] at h2
      split at h1
      · rename_i h3
        rw [if_pos h3] at h2
        exact ⟨h.name _ _ _ h1 h2, h.val _ _ _ h1 h2⟩
      · cases h1
    · rw [List.getElem?_append_right (by omega)] at h1
      rw [List.getElem?_append_right (by omega), ← hlt] at h2
      cases hk : j - (ms.take i).length with
      | zero =>
        rw [hk] at h1 h2
        cases h1; cases h2
        exact ⟨hn, ht⟩
      | succ k =>
        rw [hk, List.getElem?_cons_succ, List.getElem?_drop] at h1 h2
        exact ⟨h.name _ _ _ h1 h2, h.val _ _ _ h1 h2⟩
  exact ⟨by simp [hl], fun j a c h1 h2 => (key j a c h1 h2).1, fun j a c h1 h2 => (key j a c h1 h2).2⟩
theorem MemsOf.delete {w : World} {B : Nat} {ms : List (ByteArray × JV)} {rms : List RM} (h : MemsOf w B ms rms) (i : Nat) : MemsOf w B (ms.take i ++ ms.drop (i + 1)) (rms.take i ++ rms.drop (i + 1)) := by
  have hl := h.len
  have key : ∀ (j : Nat) a c, (ms.take i ++ ms.drop (i + 1))[j]? = some a → (rms.take i ++ rms.drop (i + 1))[j]? = some c → a.1 = c.name ∧ TreeOf w B a.2 c.v := by
    intro j a c h1 h2
    have hlt : (ms.take i).length = (rms.take i).length := by simp [hl]
    by_cases hj : j < (ms.take i).length
    · rw [List.getElem?_append_left hj, List.getElem?_take] at h1
      rw [List.getElem?_append_left (by omega), List.getElem?_take] at h2
      split at h1
      · rename_i h3
        rw [if_pos h3] at h2
        exact ⟨h.name _ _ _ h1 h2, h.val _ _ _ h1 h2⟩
      · cases h1
    · rw [List.getElem?_append_right (by omega), List.getElem?_drop] at h1
      rw [List.getElem?_append_right (by omega), ← hlt, List.getElem?_drop] at h2
      exact ⟨h.name _ _ _ h1 h2, h.val _ _ _ h1 h2⟩
  exact ⟨by simp [hl], fun j a c h1 h2 => (key j a c h1 h2).1, fun j a c h1 h2 => (key j a c h1 h2).2⟩
theorem BoxAt.set0 {W : World} {g : Nat} {r : RB} (h : BoxAt W g r) (p : Option Addr) (n c : Nat) : BoxAt (W.setCell ⟨g, 0, none⟩ (.slice p n c)) g { r with po := p, no := n, co := c } := by
  unfold BoxAt at h ⊢
  simp [World.setCell, Array.getElem?_modify, h]
/-- Its list of objects replaced by another one of the call's own. -/
theorem NewBox.withObjs {W W' : World} {base B : Nat} {b : BoxD} {r : RB} (h : NewBox W base B b r) {row : Option Nat} (hg : W.grownBy W' row) (hrow : row = (Value.slice r.po r.no r.co).ownBlock) (hne : 46 ≠ 48) {p : Option Addr} {n c : Nat} {os : List (ByteArray × JV)} {ros : List RM} (ho : Own W' base 46 encM 6 (.slice p n c) ros) (hm : MemsOf W' B os ros) :
    NewBox W' base B { b with objs := os } { r with po := p, no := n, co := c } := by
  obtain ⟨ros0, h1, _⟩ := h.objs
  refine ⟨⟨ros, ho, hm⟩, h.trail.kept hg ?_, h.ok, h.seq, h.floor, h.keep⟩
  subst hrow
  cases e : (Value.slice r.pt r.nt r.ct).ownBlock with
  | none => exact .inl rfl
  | some k => exact .inr (fun e2 => Own.unlike h1 h.trail hne e2.symm e)
end Go.Proofs.Ythgkgjcnmahacaa
end
