import Derived.Test.YtffhccmppdgmfaaGreatDoorG03
import Derived.Test.YtffhccmppdgmfaaGreatDoorG00
import Derived.Deep.RegionHeld3
import Derived.Deep.RegionLaw
import Derived.Lib.Bytealg
import Derived.BigQuiet
import Derived.Deep.QuietTactic
set_option linter.unusedSimpArgs false
set_option linter.unusedVariables false
set_option maxRecDepth 200000
set_option maxHeartbeats 8000000
namespace Go.Proofs.YtffhccmppdgmfaaGreatDoor
section
open Go.RowKit Go.OpenShut
theorem place_lt {t : JV} {name : ByteArray} {i : Nat} (h : t.place name = some i) : i < t.mem.length := by
 unfold JV.place at h
 rw [List.findIdx?_eq_some_iff_getElem] at h
 exact h.1
theorem VAt.set4 {W : World} {g : Nat} {r : RV} (h : VAt W g r) (p : Option Addr) (n c : Nat) : VAt (W.setCell ⟨g, 4, none⟩ (.slice p n c)) g { r with pm := p, nm := n, cm := c } := by
 unfold VAt at h ⊢
 simp [World.setCell, Array.getElem?_modify, h]
theorem with_any (t x : JV) (r q : RV) (name : ByteArray) (w : World) (B : Nat) (hBw : B <= w.heap.size) (ht : TreeOf w B t r) (ot : t.Ok) (hx : TreeOf w B x q) (hlen : t.mem.length <= 1466015503658) :
 Calls Tryz.prog 37 #[r.val, .string name, q.val] w (MapRet w B (putM (t.place name) t.mem name x)) := by
 obtain ⟨k, n, s, pl, nl, cl, pm, nm, cm⟩ := r
 obtain ⟨k2, n2, s2, pl2, nl2, cl2, pm2, nm2, cm2⟩ := q
 dsimp only [RV.val] at *
 have HT := Lib.hid ht
 have HO := Lib.hid ot
 have HX := Lib.hid hx
 have HL := Lib.hid hlen
 have hA0 : VAt (((w.alloc (.cells #[.int .i64 k, .int .i64 n, .string s, .slice pl nl cl, .slice pm nm cm] 25)).alloc (.cells #[.int .i64 k2, .int .i64 n2, .string s2, .slice pl2 nl2 cl2, .slice pm2 nm2 cm2] 25)).alloc (.cells #[.int .i64 0, .int .i64 0, .string ⟨#[]⟩, .slice none 0 0, .slice none 0 0] 25)) w.heap.size ⟨k, n, s, pl, nl, cl, pm, nm, cm⟩ := heap_alloc_lt (by simp; omega) (heap_alloc_lt (by simp) (heap_alloc_at rfl))
 have hA1 : VAt (((w.alloc (.cells #[.int .i64 k, .int .i64 n, .string s, .slice pl nl cl, .slice pm nm cm] 25)).alloc (.cells #[.int .i64 k2, .int .i64 n2, .string s2, .slice pl2 nl2 cl2, .slice pm2 nm2 cm2] 25)).alloc (.cells #[.int .i64 0, .int .i64 0, .string ⟨#[]⟩, .slice none 0 0, .slice none 0 0] 25)) (w.heap.size + 1) ⟨k2, n2, s2, pl2, nl2, cl2, pm2, nm2, cm2⟩ := heap_alloc_lt (by simp) (heap_alloc_at (by simp))
 have hA2 : VAt (((w.alloc (.cells #[.int .i64 k, .int .i64 n, .string s, .slice pl nl cl, .slice pm nm cm] 25)).alloc (.cells #[.int .i64 k2, .int .i64 n2, .string s2, .slice pl2 nl2 cl2, .slice pm2 nm2 cm2] 25)).alloc (.cells #[.int .i64 0, .int .i64 0, .string ⟨#[]⟩, .slice none 0 0, .slice none 0 0] 25)) (w.heap.size + 1 + 1) RV.zero := heap_alloc_at (by simp)
 have hB0 := (below2 w (.cells #[.int .i64 k, .int .i64 n, .string s, .slice pl nl cl, .slice pm nm cm] 25) (.cells #[.int .i64 k2, .int .i64 n2, .string s2, .slice pl2 nl2 cl2, .slice pm2 nm2 cm2] 25)).alloc (by simp; omega) (.cells #[.int .i64 0, .int .i64 0, .string ⟨#[]⟩, .slice none 0 0, .slice none 0 0] 25)
 clear ht ot hx hlen
 go_enter Tryz.func37, Tryz.ntmps37
 go_upto_region 1 with fail
 obtain ⟨W0, hW0⟩ : ∃ W0, (((w.alloc (.cells #[.int .i64 k, .int .i64 n, .string s, .slice pl nl cl, .slice pm nm cm] 25)).alloc (.cells #[.int .i64 k2, .int .i64 n2, .string s2, .slice pl2 nl2 cl2, .slice pm2 nm2 cm2] 25)).alloc (.cells #[.int .i64 0, .int .i64 0, .string ⟨#[]⟩, .slice none 0 0, .slice none 0 0] 25)) = W0 := ⟨_, rfl⟩
 rw [hW0] at hA0 hA1 hA2 hB0 ⊢
 clear hW0
 obtain ⟨p0, p1, p2, p3, p4⟩ := hA0.cells5
 have hzz : w.heap.size + 1 + 1 < W0.heap.size := hA2.lt
 go_upto_region 2 with (go_at_call 75; refine (members_any t ⟨k, n, s, pl, nl, cl, pm, nm, cm⟩ _ B (Nat.le_trans hBw hB0.size) (HT.out.under (hB0.mono hBw) (Nat.le_refl _)) HO.out).mono ?_; rintro e w1 ⟨pp, pn, pc, rms, rfl, ho1, hms1, hb1⟩)
 have hB1 : Below W0.heap.size W0 (w1.alloc (.cells #[.int .i64 6, .int .i64 0, .string ⟨#[]⟩, .slice none 0 0, .slice pp pn pc] 25)) := hb1.alloc hb1.size _
 have hA3 : VAt (w1.alloc (.cells #[.int .i64 6, .int .i64 0, .string ⟨#[]⟩, .slice none 0 0, .slice pp pn pc] 25)) w1.heap.size ⟨6, 0, ⟨#[]⟩, none, 0, 0, pp, pn, pc⟩ := heap_alloc_at rfl
 have ho2 := ho1.alloc (.cells #[.int .i64 6, .int .i64 0, .string ⟨#[]⟩, .slice none 0 0, .slice pp pn pc] 25)
 have hms2 : MemsOf (w1.alloc (.cells #[.int .i64 6, .int .i64 0, .string ⟨#[]⟩, .slice none 0 0, .slice pp pn pc] 25)) B t.mem rms := hms1.under ((Below.refl _ _).alloc (Nat.le_trans hBw (Nat.le_trans hB0.size hb1.size)) _) (Nat.le_refl _)
 have hp1 : ∀ g, (Value.slice pp pn pc).ownBlock = some g -> W0.heap.size <= g /\ g < w1.heap.size := ho1.lt
 obtain ⟨W1, hW1⟩ : ∃ W1, (w1.alloc (.cells #[.int .i64 6, .int .i64 0, .string ⟨#[]⟩, .slice none 0 0, .slice pp pn pc] 25)) = W1 := ⟨_, rfl⟩
 rw [hW1] at hB1 hA3 ho2 hms2 ⊢
 have hz1 : w1.heap.size < W1.heap.size := hA3.lt
 have hz0 : W0.heap.size <= w1.heap.size := hb1.size
 clear hW1 ho1 hms1 p0 p1 p2 p3 p4
 obtain ⟨p0, p1, p2, p3, p4⟩ := (hA0.under hB1 (by omega)).cells5
 go_upto_region 3 with (go_at_call 44; refine (place_any t ⟨k, n, s, pl, nl, cl, pm, nm, cm⟩ name _ (HT.out.under ((hB0.trans (hB1.mono hB0.size)).mono hBw) (Nat.le_trans hBw (hB0.trans (hB1.mono hB0.size)).size)) HO.out).mono ?_; rintro e w2 ⟨rfl, hb2⟩)
 clear p0 p1 p2 p3 p4
 have hB2 : Below W0.heap.size W0 w2 := hB1.trans (hb2.mono hB1.size)
 have HA1 := hA1.under hB2 (by omega)
 have HA2 := hA2.under hB2 (by omega)
 have HA3 := hA3.under hb2 hz1
 have ho3 := ho2.below hb2 (Nat.le_refl _)
 have HMS := Lib.hid (hms2.under (hb2.mono (by have := hB0.size; omega)) (Nat.le_refl _))
 have HX2 := Lib.hid (HX.out.under ((hB0.trans (hB2.mono hB0.size)).mono hBw) (Nat.le_refl _))
 clear hms2 ho2 hA0 hA1 hA2 hA3
 obtain ⟨p0, p1, p2, p3, p4⟩ := HA1.cells5
 obtain ⟨m0, m1, m2, m3, m4⟩ := HA3.cells5
 obtain ⟨z0, z1, z2, z3, z4⟩ := HA2.cells5
 dsimp only [RV.zero] at p0 p1 p2 p3 p4 m0 m1 m2 m3 m4 z0 z1 z2 z3 z4
 have y0 := HA2.frozen 0
 have y1 := HA2.frozen 1
 have y2 := HA2.frozen 2
 have y3 := HA2.frozen 3
 have y4 := HA2.frozen 4
 have x4 := HA3.frozen 4
 have HZ := Lib.hid HA2
 have HY := Lib.hid HA3
 clear HA1 HA2 HA3
 generalize hp : t.place name = o
 cases o with
 | some i =>
   have hi := place_lt hp
   have HP := Lib.hid hp
   have hir : i < rms.length := by rw [<- HMS.out.len]; exact hi
   obtain ⟨rm, hrm⟩ : ∃ rm, rms[i]? = some rm := ⟨_, List.getElem?_eq_getElem hir⟩
   obtain ⟨g, rfl, hpn, hg1, hg2, hcell, hfr⟩ := Own.at codecM ho3 hrm
   have hn : placeI (some i) = (i : Int) := rfl
   rw [hn]
   have hi0 : (0 : Int) <= (i : Int) := Int.natCast_nonneg _
   have hi1 : (i : Int) < (pn : Int) := by omega
   have e1 := hcell 1 _ rfl
   have e2 := hcell 2 _ rfl
   have e3 := hcell 3 _ rfl
   have e4 := hcell 4 _ rfl
   have e5 := hcell 5 _ rfl
   have k1 := hfr (i * 6 + 1)
   have k2' := hfr (i * 6 + 2)
   have k3 := hfr (i * 6 + 3)
   have k4 := hfr (i * 6 + 4)
   have k5 := hfr (i * 6 + 5)
   have HS := Lib.hid (Own.storedV ho3 hrm ⟨k2, n2, s2, pl2, nl2, cl2, pm2, nm2, cm2⟩)
   have hne : rm.name = name := by
    obtain ⟨p, h1, h2⟩ := getM hp
    rw [<- h2]
    exact (HMS.out.name i p rm h1 hrm).symm
   have HPUT := Lib.hid (HMS.out.set i (p := (name, x)) (q := ⟨rm.name, ⟨k2, n2, s2, pl2, nl2, cl2, pm2, nm2, cm2⟩⟩) hne.symm HX2.out)
   clear hn hp hcell hfr hpn hrm hne
   go_upto_region 5 with fail
   obtain ⟨w3, hw3⟩ : ∃ w3, ((((w2.setCell ⟨g, i * 6 + 1, none⟩ (.int .i64 k2)).setCell ⟨g, i * 6 + 1 + 1, none⟩ (.int .i64 n2)).setCell ⟨g, i * 6 + 1 + 2, none⟩ (.string s2)).setCell ⟨g, i * 6 + 1 + 3, none⟩ (.slice pl2 nl2 cl2)).setCell ⟨g, i * 6 + 1 + 4, none⟩ (.slice pm2 nm2 cm2) = w3 := ⟨_, rfl⟩
   have ho4 : Own w3 W0.heap.size 32 encM 6 (.slice (some ⟨g, 0, none⟩) pn pc) (rms.set i ⟨rm.name, ⟨k2, n2, s2, pl2, nl2, cl2, pm2, nm2, cm2⟩⟩) := by rw [<- hw3]; exact HS.out.1
   have hg4 : w2.grownBy w3 (some g) := by rw [<- hw3]; exact HS.out.2
   rw [hw3]
   clear hw3 HS e1 e2 e3 e4 e5 k1 k2' k3 k4 k5
   have hb4 : Below W0.heap.size w2 w3 := (Below.refl _ _).grown hg4 hB2.size (fun j e => by cases e; exact hg1)
   have hg7 : g ≠ w1.heap.size := by have := hp1 g rfl; omega
   have HZ4 : VAt w3 (w.heap.size + 1 + 1) RV.zero := HZ.out.under hb4 (by omega)
   have HY4 : VAt w3 w1.heap.size ⟨6, 0, ⟨#[]⟩, none, 0, 0, some ⟨g, 0, none⟩, pn, pc⟩ := (hg4.block _ (by have := hb2.size; omega) (fun h => hg7 (by cases h; rfl))).trans HY.out
   clear z0 z1 z2 z3 z4 m0 m1 m2 m3 m4 y0 y1 y2 y3 y4
   obtain ⟨m0, m1, m2, m3, m4⟩ := HY4.cells5
   obtain ⟨z0, z1, z2, z3, z4⟩ := HZ4.cells5
   dsimp only [RV.zero] at m0 m1 m2 m3 m4 z0 z1 z2 z3 z4
   have y0 := HZ4.frozen 0
   have y1 := HZ4.frozen 1
   have y2 := HZ4.frozen 2
   have y3 := HZ4.frozen 3
   have y4 := HZ4.frozen 4
   go_wp2_with fail
   have hB4 : Below w.heap.size w w3 := hB0.trans ((hB2.trans hb4).mono hB0.size)
   refine bodyPost_ret (v := RV.val ⟨6, 0, ⟨#[]⟩, none, 0, 0, some ⟨g, 0, none⟩, pn, pc⟩) (by simp [results, Tryz.results37, go_sem, z0, z1, z2, z3, z4]) rfl ⟨some ⟨g, 0, none⟩, pn, pc, rms.set i ⟨rm.name, ⟨k2, n2, s2, pl2, nl2, cl2, pm2, nm2, cm2⟩⟩, rfl, ?_, ?_, Below.stored hB4 (by omega) ⟨6, 0, ⟨#[]⟩, none, 0, 0, some ⟨g, 0, none⟩, pn, pc⟩⟩
   ·exact (ho4.mono hB0.size).kept (grownBy_set5 w3 (w.heap.size + 1 + 1) ⟨6, 0, ⟨#[]⟩, none, 0, 0, some ⟨g, 0, none⟩, pn, pc⟩) (.inr (by simp [Value.ownBlock]; omega))
   ·rw [HP.out]
    exact (HPUT.out.under (hb4.mono (Nat.le_trans hBw hB0.size)) (Nat.le_refl _)).under (Below.stored (Below.refl _ _) (by omega) ⟨6, 0, ⟨#[]⟩, none, 0, 0, some ⟨g, 0, none⟩, pn, pc⟩) (Nat.le_refl _)
 | none =>
   have HP := Lib.hid hp
   have hn : placeI (none : Option Nat) = -1 := rfl
   rw [hn]
   have hrl : rms.length = t.mem.length := HMS.out.len.symm
   have HRL := Lib.hid hrl
   have HW := Lib.hid hB2.size
   clear hn hp hrl
   have hL2 := HL.out
   have hne : ∀ g, (Value.slice pp pn pc).ownBlock = some g -> W0.heap.size <= g /\ g < w1.heap.size := hp1
   have HNE := Lib.hid hne
   have HYA : Hid (VAt (w2.alloc (.cells #[.string name, .int .i64 k2, .int .i64 n2, .string s2, .slice pl2 nl2 cl2, .slice pm2 nm2 cm2] 32)) w1.heap.size ⟨6, 0, ⟨#[]⟩, none, 0, 0, pp, pn, pc⟩) := heap_alloc_lt (by have := hb2.size; omega) HY.out
   have HZA : Hid (VAt (w2.alloc (.cells #[.string name, .int .i64 k2, .int .i64 n2, .string s2, .slice pl2 nl2 cl2, .slice pm2 nm2 cm2] 32)) (w.heap.size + 1 + 1) RV.zero) := heap_alloc_lt (by have := hb2.size; omega) HZ.out
   have hz2 := hb2.size
   clear hne hp1
   go_upto_region 7 with (at_builtin; refine wpList_append_rd slM codecM (w2.alloc (.cells #[.string name, .int .i64 k2, .int .i64 n2, .string s2, .slice pl2 nl2 cl2, .slice pm2 nm2 cm2] 32)) rfl (.tmp 25) (.tmp 29) rfl (v := .slice pp pn pc) rfl rfl (ho3.alloc _) (Rd.one (B := w2.heap.size + 1) (x := (⟨name, ⟨k2, n2, s2, pl2, nl2, cl2, pm2, nm2, cm2⟩⟩ : RM)) codecM (heap_alloc_new _ _) rfl (by omega)) (by have := HRL.out; simp; unfold maxLen; omega) (by have := HRL.out; simp; omega) (by have := HW.out; simp; omega) ?_; intro v3 w3 ho4 hg4 hat4; obtain ⟨p3, c3, hv3, hq1, hq2⟩ := ho4.len; rw [List.length_append, List.length_singleton] at hv3; subst hv3; clear hq1 hq2; (have HY3 : VAt w3 w1.heap.size ⟨6, 0, ⟨#[]⟩, none, 0, 0, pp, pn, pc⟩ := (hg4.block _ (by simp; omega) (fun h => by have := (HNE.out _ h.symm).2; omega)).trans HYA.out); (have m4' := HY3.cell 4 rfl); (have x4' := HY3.frozen 4); (have HY4 := Lib.hid (HY3.set4 p3 (rms.length + 1) c3)); clear HY3; go_frame)
   have hBo : Below W0.heap.size w2 w3 := Below.appended ((Below.refl _ _).alloc hB2.size _) hg4 (ho3.alloc _) (by have := HW.out; simp; omega)
   have HZ3 : VAt w3 (w.heap.size + 1 + 1) RV.zero := HZ.out.under hBo (by omega)
   have hlt3 := ho4.lt
   obtain ⟨w4, hw4⟩ : ∃ w4, w3.setCell ⟨w1.heap.size, 4, none⟩ (.slice p3 (rms.length + 1) c3) = w4 := ⟨_, rfl⟩
   have HY4' : VAt w4 w1.heap.size ⟨6, 0, ⟨#[]⟩, none, 0, 0, p3, rms.length + 1, c3⟩ := by rw [<- hw4]; exact HY4.out
   have hg5 : w3.grownBy w4 (some w1.heap.size) := by rw [<- hw4]; exact grownBy_set _ _ _ _
   rw [hw4]
   clear hw4 HY4 m4' x4'
   have hne5 : ∀ j, (Value.slice p3 (rms.length + 1) c3).ownBlock = some j -> j ≠ w1.heap.size := by
    intro j hj e
    subst e
    rcases hat4 with h | h
    ·rw [hj] at h
     have := (HNE.out _ h.symm).2
     omega
    ·rw [hj] at h
     simp at h
     omega
   have ho5 := ho4.kept hg5 (by
    cases hob : (Value.slice p3 (rms.length + 1) c3).ownBlock with
    | none => exact .inl rfl
    | some j => exact .inr (fun h => hne5 j hob (by injection h)))
   have hB5 : Below W0.heap.size w2 w4 := hBo.grown hg5 (by have := hBo.size; have := HW.out; omega) (fun j e => by cases e; exact hz0)
   have HZ5 : VAt w4 (w.heap.size + 1 + 1) RV.zero := HZ.out.under hB5 (by omega)
   clear z0 z1 z2 z3 z4 m0 m1 m2 m3 m4 y0 y1 y2 y3 y4 p0 p1 p2 p4 x4
   obtain ⟨m0, m1, m2, m3, m4⟩ := HY4'.cells5
   obtain ⟨z0, z1, z2, z3, z4⟩ := HZ5.cells5
   dsimp only [RV.zero] at m0 m1 m2 m3 m4 z0 z1 z2 z3 z4
   have y0 := HZ5.frozen 0
   have y1 := HZ5.frozen 1
   have y2 := HZ5.frozen 2
   have y3 := HZ5.frozen 3
   have y4 := HZ5.frozen 4
   have HO5 := Lib.hid ho5
   have HB4 : Hid (Below w.heap.size w w4) := hB0.trans ((hB2.trans hB5).mono hB0.size)
   have HPUT := Lib.hid ((HMS.out.snoc (p := (name, x)) (q := ⟨name, ⟨k2, n2, s2, pl2, nl2, cl2, pm2, nm2, cm2⟩⟩) rfl HX2.out).under (hB5.mono (Nat.le_trans hBw hB0.size)) (Nat.le_refl _))
   clear ho5 ho4 hne5 hg4 hat4 hg5 ho3 hlt3
   go_wp2_with fail
   refine bodyPost_ret (v := RV.val ⟨6, 0, ⟨#[]⟩, none, 0, 0, p3, rms.length + 1, c3⟩) (by simp [results, Tryz.results37, go_sem, z0, z1, z2, z3, z4]) rfl ⟨p3, rms.length + 1, c3, rms ++ [⟨name, ⟨k2, n2, s2, pl2, nl2, cl2, pm2, nm2, cm2⟩⟩], rfl, ?_, ?_, Below.stored HB4.out (by omega) ⟨6, 0, ⟨#[]⟩, none, 0, 0, p3, rms.length + 1, c3⟩⟩
   ·have hlt := HO5.out.lt
    refine (HO5.out.mono hB0.size).kept (grownBy_set5 w4 (w.heap.size + 1 + 1) ⟨6, 0, ⟨#[]⟩, none, 0, 0, p3, rms.length + 1, c3⟩) ?_
    cases hob : (Value.slice p3 (rms.length + 1) c3).ownBlock with
    | none => exact .inl rfl
    | some j =>
      refine .inr (fun h => ?_)
      have := (hlt j hob).1
      injection h with h
      omega
   ·rw [HP.out]
    exact HPUT.out.under (Below.stored (Below.refl _ _) (by omega) ⟨6, 0, ⟨#[]⟩, none, 0, 0, p3, rms.length + 1, c3⟩) (Nat.le_refl _)
def KB (B : Nat) (W w : World) : Prop := Below B W w /\ ∀ b o, b < B -> w.cell? ⟨b, o, none⟩ = W.cell? ⟨b, o, none⟩
theorem KB.mk {B : Nat} {W w : World} (h : Below B W w) : KB B W w := ⟨h, fun b o hb => h.cell (p := ⟨b, o, none⟩) hb⟩
theorem KB.fin {b B : Nat} {w W w' : World} (hk : KB B W w') (h : Below b w W) (hb : b <= B) : Below b w w' := h.trans (hk.1.mono hb)
theorem KB.refl (W : World) : KB W.heap.size W W := KB.mk (Below.refl _ _)
theorem KB.step {W w w' : World} (hk : KB W.heap.size W w) (h : Below w.heap.size w w') : KB W.heap.size W w' := KB.mk (hk.1.trans (h.mono hk.1.size))
theorem KB.drew (W : World) : KB W.heap.size W W.drew := KB.mk (Below.refl _ _).drew
abbrev RV.obj (r : RV) : Obj := .cells #[.int .i64 r.k, .int .i64 r.n, .string r.s, .slice r.pl r.nl r.cl, .slice r.pm r.nm r.cm] 25
structure Ctx (b : Nat) (w0 W : World) (L : List (Nat × RV)) (T : List (JV × RV)) : Prop where
 below : Below b w0 W
 le : b <= W.heap.size
 loc : ∀ (i g : Nat) (r : RV), L[i]? = some (g, r) -> g < W.heap.size /\ VAt W g r
 tree : ∀ (i : Nat) (t : JV) (r : RV), T[i]? = some (t, r) -> TreeOf W W.heap.size t r
theorem Ctx.nil (w : World) : Ctx w.heap.size w w [] [] := ⟨Below.refl _ _, Nat.le_refl _, fun i g r h => by simp at h, fun i t r h => by simp at h⟩
section
variable {b : Nat} {w0 W w : World} {L : List (Nat × RV)} {T : List (JV × RV)} (h : Ctx b w0 W L T)
include h
theorem Ctx.go (hb : Below W.heap.size W w) : Ctx b w0 w L T :=
 ⟨h.below.trans (hb.mono h.le), Nat.le_trans h.le hb.size, fun i g r hi => ⟨Nat.lt_of_lt_of_le (h.loc i g r hi).1 hb.size, (h.loc i g r hi).2.under hb (h.loc i g r hi).1⟩, fun i t r hi => (h.tree i t r hi).under hb hb.size⟩
theorem Ctx.alloc (x : RV) : Ctx b w0 (W.alloc x.obj) ((W.heap.size, x) :: L) T := by
 have g := h.go ((Below.refl _ _).alloc (Nat.le_refl _) x.obj)
 refine ⟨g.below, g.le, fun i k r hi => ?_, g.tree⟩
 cases i with
 | zero =>
   cases hi
   exact ⟨by simp, heap_alloc_at rfl⟩
 | succ i => exact g.loc i k r hi
theorem Ctx.know {t : JV} {x : RV} (hx : TreeOf W W.heap.size t x) : Ctx b w0 W L ((t, x) :: T) := by
 refine ⟨h.below, h.le, h.loc, fun i u r hi => ?_⟩
 cases i with
 | zero => cases hi; exact hx
 | succ i => exact h.tree i u r hi
theorem Ctx.box (hk : KB W.heap.size W w) {t : JV} {x : RV} (hx : TreeOf w w.heap.size t x) : Ctx b w0 (w.alloc x.obj) ((w.heap.size, x) :: L) ((t, x) :: T) :=
 ((h.go hk.1).know hx).alloc x
theorem Ctx.lt (i : Nat) {g : Nat} {r : RV} (hi : L[i]? = some (g, r)) : g < W.heap.size := (h.loc i g r hi).1
theorem Ctx.at (i : Nat) {g : Nat} {r : RV} (hi : L[i]? = some (g, r)) : VAt W g r := (h.loc i g r hi).2
theorem Ctx.fin (hk : KB W.heap.size W w) : Below b w0 w := h.below.trans (hk.1.mono h.le)
end
end
section
def digU (b : UInt8) : Bool := decide (48 <= b.toNat) && decide (b.toNat <= 57)
def stepD (n : Int) (b : UInt8) : Int := n * 10 + ((b.toNat : Int) - 48)
def valD (l : List UInt8) : Int := l.foldl stepD 0
theorem valD_snoc (r : List UInt8) (b : UInt8) : valD (r ++ [b]) = stepD (valD r) b := by unfold valD; rw [List.foldl_append]; rfl
theorem foldD_le : ∀ (l : List UInt8) (n : Int), l.all digU = true -> 0 <= n -> n <= l.foldl stepD n
 | [], n, _, _ => Int.le_refl _
 | b :: l, n, h, h0 => by
   rw [List.all_cons, Bool.and_eq_true] at h
   have hb := h.1
   unfold digU at hb
   rw [Bool.and_eq_true, decide_eq_true_eq, decide_eq_true_eq] at hb
   have h1 : n <= stepD n b := by unfold stepD; omega
   exact Int.le_trans h1 (foldD_le l (stepD n b) h.2 (Int.le_trans h0 h1))
theorem valD_nonneg {l : List UInt8} (h : l.all digU = true) : 0 <= valD l := foldD_le l 0 h (Int.le_refl _)
def formL : List UInt8 := [48, 48, 48, 48, 45, 48, 48, 45, 48, 48, 84, 48, 48, 58, 48, 48, 58, 48, 48]
def posOk (f c : UInt8) : Bool := if f = 48 then digU c else decide (c = f)
def hdOk (l : List UInt8) : Bool := decide (19 <= l.length) && ((formL.zip l).all (fun p => posOk p.1 p.2))
def numAt (l : List UInt8) (i n : Nat) : Int := valD ((l.drop i).take n)
def tlOk (t : List UInt8) : Bool := decide (t = [90]) || (decide (3 <= t.length) && (decide (t.length <= 11) && (decide (t[0]? = some 46) && (decide (t[t.length - 1]? = some 90) && (decide (t[t.length - 2]? ≠ some 48) && ((t.drop 1).take (t.length - 2)).all digU)))))
def leapB (y : Int) : Bool := (decide (y % 4 = 0) && decide (y % 100 ≠ 0)) || decide (y % 400 = 0)
def monthF (y m : Int) : Int := if m = 4 \/ m = 6 \/ m = 9 \/ m = 11 then 30 else if m = 2 then (if leapB y then 29 else 28) else 31
def aheadF (y : Int) : Int := if y = 0 then 0 else 365 * y + (y - 1) / 4 - (y - 1) / 100 + (y - 1) / 400 + 1
def monthsF (y : Int) : Nat -> Int
 | 0 => 0
 | k + 1 => monthsF y k + monthF y (k + 1 : Nat)
def daysF (y m d : Int) : Option Int := if 0 <= y /\ y <= 9999 /\ 1 <= m /\ m <= 12 /\ 1 <= d /\ d <= monthF y m then some (aheadF y - aheadF 1970 + monthsF y (m.toNat - 1) + d - 1) else none
def secF (l : List UInt8) : Option Int :=
 if hdOk l && (tlOk (l.drop 19) && (decide (numAt l 11 2 <= 23) && (decide (numAt l 14 2 <= 59) && decide (numAt l 17 2 <= 59)))) then (daysF (numAt l 0 4) (numAt l 5 2) (numAt l 8 2)).map (fun D => ((D * 24 + numAt l 11 2) * 60 + numAt l 14 2) * 60 + numAt l 17 2) else none
def partF (l : List UInt8) : List UInt8 := ((l.drop 20).take (l.length - 21)) ++ List.replicate (10 - (l.length - 21)) 48
theorem month_pos (y m : Int) : 28 <= monthF y m /\ monthF y m <= 31 := by
 unfold monthF
 split
 ·omega
 ·split
  ·split <;> omega
  ·omega
theorem aheadF_bound {y : Int} (h0 : 0 <= y) (h1 : y <= 10000) : 0 <= aheadF y /\ aheadF y <= 3660000 := by
 unfold aheadF
 split <;> omega
theorem monthsF_bound (y : Int) : ∀ k : Nat, 0 <= monthsF y k /\ monthsF y k <= 31 * k
 | 0 => by simp [monthsF]
 | k + 1 => by
   have h := monthsF_bound y k
   have h2 := month_pos y ((k + 1 : Nat) : Int)
   show 0 <= monthsF y k + monthF y ((k + 1 : Nat) : Int) /\ monthsF y k + monthF y ((k + 1 : Nat) : Int) <= _
   omega
def cmpS (a b : List UInt8) : Int :=
 match secF a, secF b with
 | none, none => Go.Lib.compareBytes a b
 | none, some _ => -1
 | some _, none => 1
 | some x, some y => if x < y then -1 else if y < x then 1 else Go.Lib.compareBytes (partF a) (partF b)
theorem secF_tl {l : List UInt8} {x : Int} (h : secF l = some x) : hdOk l = true /\ tlOk (l.drop 19) = true := by
 unfold secF at h
 split at h
 ·rename_i hc
  rw [Bool.and_eq_true, Bool.and_eq_true] at hc
  exact ⟨hc.1, hc.2.1⟩
 ·cases h
theorem one_more {l : List UInt8} {k : Nat} (h : k + 1 <= l.length) : ∃ c r, l = c :: r /\ k <= r.length := by
 cases l with
 | nil => simp at h
 | cons c r => exact ⟨c, r, rfl, by simpa using h⟩
theorem nineteen {l : List UInt8} (h : 19 <= l.length) : ∃ c0 c1 c2 c3 c4 c5 c6 c7 c8 c9 c10 c11 c12 c13 c14 c15 c16 c17 c18 t, l = c0 :: c1 :: c2 :: c3 :: c4 :: c5 :: c6 :: c7 :: c8 :: c9 :: c10 :: c11 :: c12 :: c13 :: c14 :: c15 :: c16 :: c17 :: c18 :: t := by
 obtain ⟨c0, l1, rfl, h1⟩ := one_more (k := 18) h
 obtain ⟨c1, l2, rfl, h2⟩ := one_more (k := 17) h1
 obtain ⟨c2, l3, rfl, h3⟩ := one_more (k := 16) h2
 obtain ⟨c3, l4, rfl, h4⟩ := one_more (k := 15) h3
 obtain ⟨c4, l5, rfl, h5⟩ := one_more (k := 14) h4
 obtain ⟨c5, l6, rfl, h6⟩ := one_more (k := 13) h5
 obtain ⟨c6, l7, rfl, h7⟩ := one_more (k := 12) h6
 obtain ⟨c7, l8, rfl, h8⟩ := one_more (k := 11) h7
 obtain ⟨c8, l9, rfl, h9⟩ := one_more (k := 10) h8
 obtain ⟨c9, l10, rfl, h10⟩ := one_more (k := 9) h9
 obtain ⟨c10, l11, rfl, h11⟩ := one_more (k := 8) h10
 obtain ⟨c11, l12, rfl, h12⟩ := one_more (k := 7) h11
 obtain ⟨c12, l13, rfl, h13⟩ := one_more (k := 6) h12
 obtain ⟨c13, l14, rfl, h14⟩ := one_more (k := 5) h13
 obtain ⟨c14, l15, rfl, h15⟩ := one_more (k := 4) h14
 obtain ⟨c15, l16, rfl, h16⟩ := one_more (k := 3) h15
 obtain ⟨c16, l17, rfl, h17⟩ := one_more (k := 2) h16
 obtain ⟨c17, l18, rfl, h18⟩ := one_more (k := 1) h17
 obtain ⟨c18, l19, rfl, h19⟩ := one_more (k := 0) h18
 exact ⟨_, _, _, _, _, _, _, _, _, _, _, _, _, _, _, _, _, _, _, _, rfl⟩
theorem hdOk_parts {l : List UInt8} (h : 19 <= l.length) : hdOk l = ((decide (l[4]? = some 45) && (decide (l[7]? = some 45) && (decide (l[10]? = some 84) && (decide (l[13]? = some 58) && decide (l[16]? = some 58))))) &&
 ((((l.drop 0).take 4).all digU && (((l.drop 5).take 2).all digU && ((l.drop 8).take 2).all digU)) && (((l.drop 11).take 2).all digU && (((l.drop 14).take 2).all digU && ((l.drop 17).take 2).all digU)))) := by
 obtain ⟨c0, c1, c2, c3, c4, c5, c6, c7, c8, c9, c10, c11, c12, c13, c14, c15, c16, c17, c18, t, rfl⟩ := nineteen h
 unfold hdOk
 rw [decide_eq_true h, Bool.true_and]
 have e : ((formL.zip (c0 :: c1 :: c2 :: c3 :: c4 :: c5 :: c6 :: c7 :: c8 :: c9 :: c10 :: c11 :: c12 :: c13 :: c14 :: c15 :: c16 :: c17 :: c18 :: t)).all (fun p => posOk p.1 p.2)) = (digU c0 && (digU c1 && (digU c2 && (digU c3 && (decide (c4 = 45) && (digU c5 && (digU c6 && (decide (c7 = 45) && (digU c8 && (digU c9 && (decide (c10 = 84) && (digU c11 && (digU c12 && (decide (c13 = 58) && (digU c14 && (digU c15 && (decide (c16 = 58) && (digU c17 && (digU c18 && true))))))))))))))))))) := rfl
 rw [e]
 simp only [List.getElem?_cons_succ, List.getElem?_cons_zero, Option.some.injEq, List.drop_succ_cons, List.drop_zero, List.take_succ_cons, List.take_zero, List.all_cons, List.all_nil, Bool.and_true]
 generalize digU c0 = d0; generalize digU c1 = d1; generalize digU c2 = d2; generalize digU c3 = d3; generalize digU c5 = d5; generalize digU c6 = d6; generalize digU c8 = d8; generalize digU c9 = d9; generalize digU c11 = d11; generalize digU c12 = d12; generalize digU c14 = d14; generalize digU c15 = d15; generalize digU c17 = d17; generalize digU c18 = d18
 generalize decide (c4 = 45) = s4; generalize decide (c7 = 45) = s7; generalize decide (c10 = 84) = s10; generalize decide (c13 = 58) = s13; generalize decide (c16 = 58) = s16
 rw [Bool.eq_iff_iff]
 simp only [Bool.and_eq_true]
 constructor
 ·rintro ⟨h0, h1, h2, h3, h4, h5, h6, h7, h8, h9, h10, h11, h12, h13, h14, h15, h16, h17, h18⟩
  exact ⟨⟨h4, h7, h10, h13, h16⟩, ⟨⟨h0, h1, h2, h3⟩, ⟨h5, h6⟩, h8, h9⟩, ⟨h11, h12⟩, ⟨h14, h15⟩, h17, h18⟩
 ·rintro ⟨⟨h4, h7, h10, h13, h16⟩, ⟨⟨h0, h1, h2, h3⟩, ⟨h5, h6⟩, h8, h9⟩, ⟨h11, h12⟩, ⟨h14, h15⟩, h17, h18⟩
  exact ⟨h0, h1, h2, h3, h4, h5, h6, h7, h8, h9, h10, h11, h12, h13, h14, h15, h16, h17, h18⟩
def hdStep (p : Nat × List Int) (x : UInt8 × UInt8) : Nat × List Int := if x.1 = 48 then (p.1, p.2.set p.1 (stepD (p.2.getD p.1 0) x.2)) else (p.1 + 1, p.2)
def hdFold (l : List UInt8) (i : Nat) : Nat × List Int := ((formL.zip l).take i).foldl hdStep (0, [0, 0, 0, 0, 0, 0])
def atN (i : Nat) : Nat := ((formL.take i).filter (fun c => decide (c ≠ 48))).length
theorem hdFold_succ {l : List UInt8} {i : Nat} {f c : UInt8} (hf : formL[i]? = some f) (hc : l[i]? = some c) : hdFold l (i + 1) = hdStep (hdFold l i) (f, c) := by
 unfold hdFold
 have hz : (formL.zip l)[i]? = some (f, c) := by rw [List.getElem?_zip_eq_some]; exact ⟨hf, hc⟩
 rw [List.take_add_one, hz, Option.toList_some, List.foldl_append]
 rfl
theorem atN_succ {i : Nat} {f : UInt8} (hf : formL[i]? = some f) : atN (i + 1) = atN i + if f = 48 then 0 else 1 := by
 unfold atN
 rw [List.take_add_one, hf, Option.toList_some, List.filter_append, List.length_append]
 by_cases h : f = 48
 ·simp [h]
 ·simp [h]
theorem atN_lt : ∀ i : Fin 19, atN i.1 <= 5 /\ i.1 - atN i.1 <= 13 /\ atN i.1 <= i.1 := by decide
theorem form_get : ∀ i : Fin 19, ∃ f, formL[i.1]? = some f := fun i => ⟨_, List.getElem?_eq_getElem (show i.1 < formL.length from i.2)⟩
structure HdI (l : List UInt8) (i : Nat) : Prop where
 at' : (hdFold l i).1 = atN i
 len : (hdFold l i).2.length = 6
 low : ∀ x ∈ (hdFold l i).2, 0 <= x /\ x < 10 ^ (i - atN i)
 ok : ((formL.zip l).take i).all (fun p => posOk p.1 p.2) = true
theorem HdI.start (l : List UInt8) : HdI l 0 := ⟨rfl, rfl, fun x hx => by
 have : x ∈ [0, 0, 0, 0, 0, (0 : Int)] := hx
 simp at this
 subst this
 exact ⟨by decide, by decide⟩, rfl⟩
theorem HdI.step {l : List UInt8} {i : Nat} {f c : UInt8} (h : HdI l i) (hi : i < 19) (hf : formL[i]? = some f) (hc : l[i]? = some c) (hp : posOk f c = true) : HdI l (i + 1) := by
 have hs := hdFold_succ hf hc
 have ha := atN_succ hf
 obtain ⟨a1, a2, a3⟩ := atN_lt ⟨i, hi⟩
 dsimp only at a1 a2 a3
 have hok : ((formL.zip l).take (i + 1)).all (fun p => posOk p.1 p.2) = true := by
  have hz : (formL.zip l)[i]? = some (f, c) := by rw [List.getElem?_zip_eq_some]; exact ⟨hf, hc⟩
  rw [List.take_add_one, hz, Option.toList_some, List.all_append, h.ok]
  simp [hp]
 by_cases h48 : f = 48
 ·subst h48
  rw [if_pos rfl] at ha
  unfold hdStep at hs
  rw [if_pos rfl] at hs
  have hd : digU c = true := hp
  unfold digU at hd
  simp only [Bool.and_eq_true, decide_eq_true_eq] at hd
  refine ⟨by rw [hs, ha, Nat.add_zero]; exact h.at', by rw [hs]; simp [h.len], fun x hx => ?_, hok⟩
  rw [hs] at hx
  dsimp only at hx
  have hpow : (10 : Int) ^ (i + 1 - atN (i + 1)) = 10 ^ (i - atN i) * 10 := by rw [ha, show i + 1 - (atN i + 0) = (i - atN i) + 1 by omega, Int.pow_succ]
  rw [hpow]
  rcases List.mem_or_eq_of_mem_set hx with hm | rfl
  ·have := h.low x hm
   omega
  ·have hgm : (hdFold l i).2.getD (hdFold l i).1 0 ∈ (hdFold l i).2 := by
    rw [List.getD_eq_getElem?_getD, List.getElem?_eq_getElem (by rw [h.at', h.len]; omega)]
    exact List.getElem_mem _
   have := h.low _ hgm
   unfold stepD
   omega
 ·rw [if_neg h48] at ha
  unfold hdStep at hs
  rw [if_neg h48] at hs
  refine ⟨by rw [hs, ha, <- h.at'], by rw [hs]; exact h.len, fun x hx => ?_, hok⟩
  rw [hs] at hx
  have := h.low x hx
  rw [ha, show i + 1 - (atN i + 1) = i - atN i by omega]
  exact this
theorem HdI.bound {l : List UInt8} {i : Nat} (h : HdI l i) (hi : i < 19) : 0 <= (hdFold l i).2.getD (atN i) 0 /\ (hdFold l i).2.getD (atN i) 0 < 10000000000000 := by
 obtain ⟨a1, a2, a3⟩ := atN_lt ⟨i, hi⟩
 dsimp only at a1 a2 a3
 have hgm : (hdFold l i).2.getD (atN i) 0 ∈ (hdFold l i).2 := by
  rw [List.getD_eq_getElem?_getD, List.getElem?_eq_getElem (by rw [h.len]; omega)]
  exact List.getElem_mem _
 have := h.low _ hgm
 have h13 : (10 : Int) ^ (i - atN i) <= 10 ^ 13 := by
  have : ∀ k : Nat, k <= 13 -> (10 : Int) ^ k <= 10 ^ 13 := by
   intro k hk
   have h1 : (10 : Nat) ^ k <= 10 ^ 13 := Nat.pow_le_pow_right (by decide) hk
   have h2 : ((10 ^ k : Nat) : Int) <= ((10 ^ 13 : Nat) : Int) := by omega
   simpa using h2
  exact this _ a2
 have h14 : (10 : Int) ^ 13 = 10000000000000 := by decide
 omega
theorem hdFold_end {l : List UInt8} (h : 19 <= l.length) : (hdFold l 19).2 = [numAt l 0 4, numAt l 5 2, numAt l 8 2, numAt l 11 2, numAt l 14 2, numAt l 17 2] := by
 obtain ⟨c0, c1, c2, c3, c4, c5, c6, c7, c8, c9, c10, c11, c12, c13, c14, c15, c16, c17, c18, t, rfl⟩ := nineteen h
 rfl
theorem HdI.fin {l : List UInt8} (h : HdI l 19) (hl : 19 <= l.length) : hdOk l = true := by
 unfold hdOk
 rw [decide_eq_true hl, Bool.true_and]
 have h1 := h.ok
 rw [List.take_of_length_le (by rw [List.length_zip]; show min 19 _ <= 19; omega)] at h1
 exact h1
theorem hd_no {l : List UInt8} {i : Nat} {f c : UInt8} (hf : formL[i]? = some f) (hc : l[i]? = some c) (hp : posOk f c = false) : hdOk l = false := by
 unfold hdOk
 rw [Bool.and_eq_false_iff]
 right
 have hz : (formL.zip l)[i]? = some (f, c) := by rw [List.getElem?_zip_eq_some]; exact ⟨hf, hc⟩
 rw [List.all_eq_false]
 exact ⟨(f, c), List.mem_of_getElem? hz, by rw [hp]; decide⟩
theorem hd_short {l : List UInt8} (h : l.length < 19) : hdOk l = false := by
 unfold hdOk
 rw [decide_eq_false (by omega)]
 rfl
end
section
open Go Go.RowKit Go.OpenShut
theorem ret_intS {a b : Int} (h : a = b) : Ending.returned (.int .i64 a) = .returned (.int .i64 b) := by rw [h]
theorem leap_any (y : Int) (w : World) (h0 : 0 <= y) (h1 : y <= 9999) : Calls Tryz.prog 195 #[.int .i64 y] w fun e w' => e = .returned (.bool (leapB y)) /\ w = w' := by
 obtain ⟨a, ha⟩ : ∃ a, (y % 4 == 0) = a := ⟨_, rfl⟩
 obtain ⟨b, hb⟩ : ∃ a, (y % 100 == 0) = a := ⟨_, rfl⟩
 obtain ⟨c, hc⟩ : ∃ a, (y % 400 == 0) = a := ⟨_, rfl⟩
 have hb2 : (y % 100 != 0) = !b := by unfold bne; rw [hb]
 have HR : Hid (leapB y = ((a && !b) || c)) := by
  unfold Hid leapB
  rw [<- ha, <- hb, <- hc]
  have h : ∀ n : Int, (n == 0) = decide (n = 0) := fun n => by by_cases h : n = 0 <;> simp [h]
  rw [h, h, h]
  simp
 rw [HR.out]
 cases a <;> cases b <;> cases c
 all_goals
  simp only [Bool.not_false, Bool.not_true] at hb2
  go_enter Tryz.func195, Tryz.ntmps195
  go_wp2_with fail
  go_ret
  exact ⟨rfl, rfl⟩
theorem month_any (y m : Int) (w : World) (h0 : 0 <= y) (h1 : y <= 9999) (m0 : 1 <= m) (m1 : m <= 12) : Calls Tryz.prog 176 #[.int .i64 y, .int .i64 m] w fun e w' => e = .returned (.int .i64 (monthF y m)) /\ w = w' := by
 have HL : Hid (∀ W, Calls Tryz.prog 195 #[.int .i64 y] W fun e w' => e = .returned (.bool (leapB y)) /\ W = w') := fun W => leap_any y W h0 h1
 have HM : Hid (monthF y m = if m = 4 \/ m = 6 \/ m = 9 \/ m = 11 then 30 else if m = 2 then (if leapB y then 29 else 28) else 31) := rfl
 obtain ⟨b, hb⟩ : ∃ b, leapB y = b := ⟨_, rfl⟩
 rw [hb] at HL HM
 obtain ⟨R, hR⟩ : ∃ R, monthF y m = R := ⟨_, rfl⟩
 rw [hR] at HM
 rw [hR]
 clear hR hb
 rcases (show m = 1 \/ m = 2 \/ m = 3 \/ m = 4 \/ m = 5 \/ m = 6 \/ m = 7 \/ m = 8 \/ m = 9 \/ m = 10 \/ m = 11 \/ m = 12 by omega) with rfl | rfl | rfl | rfl | rfl | rfl | rfl | rfl | rfl | rfl | rfl | rfl
 all_goals
  cases b
  all_goals
   go_enter Tryz.func176, Tryz.ntmps176
   go_wp2_with (first | (go_at_call 195; refine (HL.out _).mono ?_; rintro e w1 ⟨rfl, rfl⟩) | fail)
   go_ret
   exact ⟨ret_intS (by rw [HM.out]; decide), rfl⟩
theorem aheadS_any (y : Int) (w : World) (h0 : 0 <= y) (h1 : y <= 9999) : Calls Tryz.prog 177 #[.int .i64 y] w fun e w' => e = .returned (.int .i64 (aheadF y)) /\ w = w' := by
 by_cases h : y = 0
 ·subst h
  go_enter Tryz.func177, Tryz.ntmps177
  go_wp2_with fail
  go_ret
  exact ⟨rfl, rfl⟩
 ·have hn : (y == 0) = false := by simpa using h
  have hy1 : 0 <= y - 1 := by omega
  have HA : Hid (aheadF y = 365 * y + (y - 1) / 4 - (y - 1) / 100 + (y - 1) / 400 + 1) := by unfold Hid aheadF; rw [if_neg h]
  obtain ⟨R, hR⟩ : ∃ R, aheadF y = R := ⟨_, rfl⟩
  rw [hR] at HA
  rw [hR]
  clear hR h
  go_enter Tryz.func177, Tryz.ntmps177
  go_wp2_with fail
  go_ret
  refine ⟨ret_intS ?_, rfl⟩
  rw [HA.out]
  try unfold wrap64
  try omega
def dayRet (o : Option Int) : Value := match o with | some n => .tuple #[.int .i64 n, .bool true] | none => .tuple #[.int .i64 0, .bool false]
theorem days_any (y m d : Int) (w : World) (h0 : 0 <= y) (h1 : y <= 9999) (m0 : 0 <= m) (m1 : m <= 99) (d0 : 0 <= d) (d1 : d <= 99) : Calls Tryz.prog 162 #[.int .i64 y, .int .i64 m, .int .i64 d] w fun e w' => e = .returned (dayRet (daysF y m d)) /\ w = w' := by
 have q1 : decide (y < 0) = false := decide_eq_false (by omega)
 have q2 : decide ((9999 : Int) < y) = false := decide_eq_false (by omega)
 obtain ⟨a, ha⟩ : ∃ a, decide (m < 1) = a := ⟨_, rfl⟩
 obtain ⟨b, hb⟩ : ∃ a, decide ((12 : Int) < m) = a := ⟨_, rfl⟩
 obtain ⟨c, hc⟩ : ∃ a, decide (d < 1) = a := ⟨_, rfl⟩
 have HDF : Hid (daysF y m d = if 0 <= y /\ y <= 9999 /\ 1 <= m /\ m <= 12 /\ 1 <= d /\ d <= monthF y m then some (aheadF y - aheadF 1970 + monthsF y (m.toNat - 1) + d - 1) else none) := rfl
 have HABC : Hid (decide (m < 1) = a /\ decide ((12 : Int) < m) = b /\ decide (d < 1) = c) := ⟨ha, hb, hc⟩
 obtain ⟨R, hR⟩ : ∃ R, daysF y m d = R := ⟨_, rfl⟩
 rw [hR] at HDF
 rw [hR]
 clear hR
 cases habc : (a || (b || c)) with
 | true =>
   have HN : Hid (R = none) := by
    unfold Hid
    rw [HDF.out, if_neg]
    rintro ⟨_, _, g1, g2, g3, _⟩
    obtain ⟨x1, x2, x3⟩ := HABC.out
    rw [decide_eq_false (by omega)] at x1 x2 x3
    rw [<- x1, <- x2, <- x3] at habc
    cases habc
   rw [HN.out]
   cases a <;> cases b <;> cases c <;> simp only [Bool.or_true, Bool.or_false, Bool.or_self, reduceCtorEq] at habc
   all_goals
    go_enter Tryz.func162, Tryz.ntmps162
    go_wp2_with fail
    refine bodyPost_ret (v := .tuple #[.int .i64 0, .bool false]) (by simp [results, Tryz.results162, go_sem]) rfl ⟨rfl, rfl⟩
 | false =>
   obtain rfl : a = false := by cases a <;> simp_all
   obtain rfl : b = false := by cases b <;> simp_all
   obtain rfl : c = false := by cases c <;> simp_all
   have m0' := of_decide_eq_false ha
   have m1' := of_decide_eq_false hb
   have d0' := of_decide_eq_false hc
   clear habc
   have HMO : Hid (∀ (k : Int) W, 1 <= k -> k <= 12 -> Calls Tryz.prog 176 #[.int .i64 y, .int .i64 k] W fun e w' => e = .returned (.int .i64 (monthF y k)) /\ W = w') := fun k W g1 g2 => month_any y k W h0 h1 g1 g2
   have HAH : Hid (∀ W, Calls Tryz.prog 177 #[.int .i64 y] W fun e w' => e = .returned (.int .i64 (aheadF y)) /\ W = w') := fun W => aheadS_any y W h0 h1
   have HA7 : Hid (∀ W, Calls Tryz.prog 177 #[.int .i64 1970] W fun e w' => e = .returned (.int .i64 (aheadF 1970)) /\ W = w') := fun W => aheadS_any 1970 W (by decide) (by decide)
   have HMB := Lib.hid (month_pos y)
   have HAB := Lib.hid (aheadF_bound h0 (show y <= 10000 by omega))
   have e7 : aheadF 1970 = 719528 := by decide
   rw [e7] at HA7 HDF
   have HM := Lib.hid (HMO.out m)
   obtain ⟨M, hM⟩ : ∃ M, monthF y m = M := ⟨_, rfl⟩
   rw [hM] at HM HDF
   obtain ⟨e, he⟩ : ∃ a, decide (M < d) = a := ⟨_, rfl⟩
   have hmb := HMB.out m
   rw [hM] at hmb
   cases e with
   | true =>
     have hed := of_decide_eq_true he
     have HN : Hid (R = none) := by
      unfold Hid
      rw [HDF.out, if_neg (by omega)]
     rw [HN.out]
     go_enter Tryz.func162, Tryz.ntmps162
     go_wp2_with (first | (go_at_call 176; refine (HM.out _ (by omega) (by omega)).mono ?_; rintro e w1 ⟨rfl, rfl⟩) | fail)
     refine bodyPost_ret (v := .tuple #[.int .i64 0, .bool false]) (by simp [results, Tryz.results162, go_sem]) rfl ⟨rfl, rfl⟩
   | false =>
     have hed := of_decide_eq_false he
     obtain ⟨A, hA⟩ : ∃ A, aheadF y = A := ⟨_, rfl⟩
     rw [hA] at HAH HAB HDF
     have HN : Hid (R = some (A - 719528 + monthsF y (m.toNat - 1) + d - 1)) := by
      unfold Hid
      rw [HDF.out, if_pos (by omega)]
     have hab := HAB.out
     go_enter Tryz.func162, Tryz.ntmps162
     go_upto_region 3 with (first | (go_at_call 176; refine (HM.out _ (by omega) (by omega)).mono ?_; rintro e w1 ⟨rfl, rfl⟩) | fail)
     go_wp2_with (first | (go_at_call 177; (with_reducible refine (HAH.out _).mono ?_); rintro e w1 ⟨rfl, rfl⟩) | (go_at_call 177; (with_reducible refine (HA7.out _).mono ?_); rintro e w1 ⟨rfl, rfl⟩) | fail)
     go_loop [8, 9] (fun n k => ∃ j : Nat, (j : Int) + 1 <= m /\ k = .int .i64 ((j + 1 : Nat) : Int) /\ n = .int .i64 (A - 719528 + monthsF y j)) (fun _ k => m.toNat - (intOf k).toNat)
     case atStart => exact ⟨0, by omega, rfl, by simp [monthsF]⟩
     case round =>
      obtain ⟨j, hj, rfl, rfl⟩ := hrel
      have hms := monthsF_bound y j
      have HSU : Hid (monthsF y (j + 1) = monthsF y j + monthF y ((j + 1 : Nat) : Int)) := rfl
      obtain ⟨S, hS⟩ : ∃ S, monthsF y j = S := ⟨_, rfl⟩
      rw [hS] at hms HSU
      rw [hS]
      have HSE := Lib.hid hS
      clear hS
      have hj0 : (0 : Int) <= (j : Int) := Int.natCast_nonneg _
      by_cases hlt : (j : Int) + 1 < m
      ·have HMJ := Lib.hid (HMO.out ((j + 1 : Nat) : Int))
       have hmb2 := HMB.out ((j + 1 : Nat) : Int)
       obtain ⟨T, hT⟩ : ∃ T, monthF y ((j + 1 : Nat) : Int) = T := ⟨_, rfl⟩
       rw [hT] at HMJ HSU hmb2
       have hlt2 : decide (((j + 1 : Nat) : Int) < m) = true := decide_eq_true (by omega)
       clear hT
       go_wp2_with (first | (go_at_call 176; refine (HMJ.out _ (by omega) (by omega)).mono ?_; rintro e w1 ⟨rfl, rfl⟩) | fail)
       go_round
       case rel => exact ⟨j + 1, by omega, by go_num, by rw [HSU.out]; exact congrArg (Value.int IntKind.i64) (by omega)⟩
       case measure => simp [intOf]; omega
      ·have hlt2 : decide (((j + 1 : Nat) : Int) < m) = false := decide_eq_false (by omega)
       have HJ : Hid (m.toNat - 1 = j) := by unfold Hid; omega
       rw [HJ.out, HSE.out] at HN
       go_wp2_with fail
       rw [HN.out]
       refine bodyPost_ret (v := .tuple #[.int .i64 (A - 719528 + S + d - 1), .bool true]) (by simp [results, Tryz.results162, go_sem]) rfl ⟨rfl, rfl⟩
theorem get_optS {s : ByteArray} {k : Nat} (h : k < s.size) : s.data.toList[k]? = some s[k] := by simp [h, ByteArray.getElem_eq_getElem_data]
def hdCells (ns : List Int) : Array Value := (ns.map (Value.int .i64)).toArray
def HdAt (W : World) (g : Nat) (ns : List Int) : Prop := W.heap[g]? = some (.cells (hdCells ns) 177 (0, 0))
theorem HdAt.cell {W : World} {g : Nat} {ns : List Int} (h : HdAt W g ns) {j : Nat} {x : Int} (hx : ns[j]? = some x) : W.cell? ⟨g, j, none⟩ = some (.int .i64 x) := by
 unfold HdAt at h
 rw [cell_of_row W g j _ _ _ h]
 unfold hdCells
 simp [hx]
theorem HdAt.lt {W : World} {g : Nat} {ns : List Int} (h : HdAt W g ns) : g < W.heap.size := (Array.getElem?_eq_some_iff.1 h).1
theorem HdAt.frozen {W : World} {g : Nat} {ns : List Int} (h : HdAt W g ns) (j : Nat) : W.frozen? ⟨g, j, none⟩ = false := by
 unfold HdAt at h
 simp [World.frozen?, h]
theorem HdAt.set {W : World} {g : Nat} {ns : List Int} (h : HdAt W g ns) (j : Nat) (x : Int) : HdAt (W.setCell ⟨g, j, none⟩ (.int .i64 x)) g (ns.set j x) := by
 unfold HdAt at h ⊢
 simp [World.setCell, Array.getElem?_modify, h, hdCells, List.map_set]
theorem HdAt.keep {W W' : World} {g : Nat} {ns : List Int} (h : HdAt W g ns) (hb : W'.heap[g]? = W.heap[g]?) : HdAt W' g ns := hb.trans h
structure HdS (w : World) (l : List UInt8) (i : Nat) (W : World) : Prop where
 nums : HdAt W (w.heap.size + 1) (hdFold l i).2
 zero : HdAt W w.heap.size [0, 0, 0, 0, 0, 0]
 below : Below w.heap.size w W
theorem HdS.drewN {w W : World} {l : List UInt8} {i : Nat} (h : HdS w l i W) (n : Nat) : HdS w l i (W.drewN n) := ⟨h.nums, h.zero, bdn h.below n⟩
theorem form_sep : ∀ i : Fin 19, ∀ f, formL[i.1]? = some f -> f ≠ 48 -> digU f = false := by
 have h : ∀ f ∈ formL, f ≠ 48 -> digU f = false := by decide
 exact fun i f hf hn => h f (List.mem_of_getElem? hf) hn
theorem head_test {i : Nat} (hi : i < 19) {f c : UInt8} (hf : formL[i]? = some f) : posOk f c = !((digU c != decide (f = 48)) || (!digU c && decide (c ≠ f))) := by
 unfold posOk
 by_cases h : f = 48
 ·rw [if_pos h, decide_eq_true h]
  cases hd : digU c with
  | true => rfl
  | false => rfl
 ·rw [if_neg h, decide_eq_false h]
  by_cases hc : c = f
  ·have hd := form_sep ⟨i, hi⟩ f hf h
   rw [hc, hd]
   simp
  ·rw [decide_eq_false hc, decide_eq_true hc]
   cases digU c <;> rfl
theorem Below.six {B : Nat} {w W : World} {g : Nat} (h : Below B w W) (hg : B <= g) (a b c d x y : Value) : Below B w ((((((W.setCell ⟨g, 0, none⟩ a).setCell ⟨g, 1, none⟩ b).setCell ⟨g, 2, none⟩ c).setCell ⟨g, 3, none⟩ d).setCell ⟨g, 4, none⟩ x).setCell ⟨g, 5, none⟩ y) :=
 (((((h.setCell (p := ⟨g, 0, none⟩) hg _).setCell (p := ⟨g, 1, none⟩) hg _).setCell (p := ⟨g, 2, none⟩) hg _).setCell (p := ⟨g, 3, none⟩) hg _).setCell (p := ⟨g, 4, none⟩) hg _).setCell (p := ⟨g, 5, none⟩) hg _
def headRet (l : List UInt8) (e : Ending) : Prop := if hdOk l = true then e = .returned (.tuple #[.agg #[.int .i64 (numAt l 0 4), .int .i64 (numAt l 5 2), .int .i64 (numAt l 8 2), .int .i64 (numAt l 11 2), .int .i64 (numAt l 14 2), .int .i64 (numAt l 17 2)], .bool true]) else ∃ a b c d x y : Int, e = .returned (.tuple #[.agg #[.int .i64 a, .int .i64 b, .int .i64 c, .int .i64 d, .int .i64 x, .int .i64 y], .bool false])
theorem six {ns : List Int} (h : ns.length = 6) : ∃ a b c d x y, ns = [a, b, c, d, x, y] := by
 match ns, h with
 | [a, b, c, d, x, y], _ => exact ⟨a, b, c, d, x, y, rfl⟩
theorem head_any (s : ByteArray) (w : World) (hs : s.size <= maxLen) : Calls Tryz.prog 160 #[.string s] w fun e w' => headRet s.data.toList e /\ Below w.heap.size w w' := by
 have hsz : s.data.toList.length = s.size := by rw [Array.length_toList]; rfl
 unfold maxLen at hs
 obtain ⟨W0, hW0⟩ : ∃ W0, (w.alloc (.cells #[.int .i64 0, .int .i64 0, .int .i64 0, .int .i64 0, .int .i64 0, .int .i64 0] 177)).alloc (.cells #[.int .i64 0, .int .i64 0, .int .i64 0, .int .i64 0, .int .i64 0, .int .i64 0] 177) = W0 := ⟨_, rfl⟩
 have hS0 : HdS w s.data.toList 0 W0 := by
  rw [<- hW0]
  exact ⟨heap_alloc_at (by simp), heap_alloc_lt (by simp) (heap_alloc_at rfl), below2 w _ _⟩
 have HW := Lib.hid hW0
 have HS0 := Lib.hid hS0
 have HGE : Hid (∀ k, (h : k < s.size) -> s.data.toList[k]? = some s[k]) := fun k h => get_optS h
 have HSZ := Lib.hid hsz
 have s0 : (0 : Int) <= (s.size : Int) := Int.natCast_nonneg _
 clear hW0 hS0 hsz
 by_cases h19 : s.size < 19
 ·have q1 : decide ((s.size : Int) < 19) = true := decide_eq_true (by omega)
  have HNO : Hid (hdOk s.data.toList = false) := hd_short (by rw [HSZ.out]; exact h19)
  have c0 := HS0.out.nums.cell (j := 0) rfl
  have c1 := HS0.out.nums.cell (j := 1) rfl
  have c2 := HS0.out.nums.cell (j := 2) rfl
  have c3 := HS0.out.nums.cell (j := 3) rfl
  have c4 := HS0.out.nums.cell (j := 4) rfl
  have c5 := HS0.out.nums.cell (j := 5) rfl
  have z0 := HS0.out.zero.cell (j := 0) rfl
  have z1 := HS0.out.zero.cell (j := 1) rfl
  have z2 := HS0.out.zero.cell (j := 2) rfl
  have z3 := HS0.out.zero.cell (j := 3) rfl
  have z4 := HS0.out.zero.cell (j := 4) rfl
  have z5 := HS0.out.zero.cell (j := 5) rfl
  have y := HS0.out.zero.frozen
  go_enter Tryz.func160, Tryz.ntmps160
  go_upto_region 2 with fail
  rw [HW.out]
  clear HW
  go_wp2_with fail
  refine bodyPost_ret (v := .tuple #[.agg #[.int .i64 0, .int .i64 0, .int .i64 0, .int .i64 0, .int .i64 0, .int .i64 0], .bool false]) (by simp [results, Tryz.results160, go_sem, z0, z1, z2, z3, z4, z5]) rfl ⟨?_, Below.six HS0.out.below (Nat.le_refl _) _ _ _ _ _ _⟩
  unfold headRet
  rw [if_neg (by rw [HNO.out]; decide)]
  exact ⟨_, _, _, _, _, _, rfl⟩
 ·have q1 : decide ((s.size : Int) < 19) = false := decide_eq_false (by omega)
  have hlen : 19 <= s.data.toList.length := by rw [HSZ.out]; omega
  have HL := Lib.hid hlen
  have h19' : (19 : Int) <= (s.size : Int) := by omega
  have hw0 := HS0.out.below.size
  have hw1 := HS0.out.nums.lt
  clear hlen
  go_enter Tryz.func160, Tryz.ntmps160
  go_upto_region 2 with fail
  rw [HW.out]
  clear HW
  go_wp2_with fail
  go_loopw [5, 12] (fun a i wr => ∃ k : Nat, k <= 19 /\ i = .int .i64 (k : Int) /\ a = .int .i64 ((atN k : Nat) : Int) /\ Hid (HdI s.data.toList k /\ HdS w s.data.toList k wr)) (fun _ i _ => 19 - (intOf i).toNat)
  case atStart => exact ⟨0, by omega, rfl, rfl, HdI.start _, HS0.out⟩
  case round =>
   obtain ⟨k, hk, rfl, rfl, hH⟩ := hrel
   have HI := Lib.hid hH.out.1
   have HS := Lib.hid hH.out.2
   have hk0 : (0 : Int) <= (k : Int) := Int.natCast_nonneg _
   clear hH
   by_cases hlt : k < 19
   ·have hk19 : (k : Int) < 19 := by omega
    have hks : k < s.size := by omega
    have hks' : (k : Int) < (s.size : Int) := by omega
    obtain ⟨f, hf⟩ := form_get ⟨k, hlt⟩
    dsimp only at hf
    have hg := HGE.out k hks
    obtain ⟨c, hc⟩ : ∃ c, s[k] = c := ⟨_, rfl⟩
    rw [hc] at hg
    have HF := Lib.hid hf
    have HC := Lib.hid hg
    have hfb : ({ data := #[48, 48, 48, 48, 45, 48, 48, 45, 48, 48, 84, 48, 48, 58, 48, 48, 58, 48, 48] } : ByteArray)[k]'hlt = f := by
     have h1 : formL[k]? = some (({ data := #[48, 48, 48, 48, 45, 48, 48, 45, 48, 48, 84, 48, 48, 58, 48, 48, 58, 48, 48] } : ByteArray)[k]'hlt) := get_optS (s := { data := #[48, 48, 48, 48, 45, 48, 48, 45, 48, 48, 84, 48, 48, 58, 48, 48, 58, 48, 48] }) hlt
     rw [hf] at h1
     exact (Option.some.inj h1).symm
    have ha5 := (atN_lt ⟨k, hlt⟩).1
    dsimp only at ha5
    have HA1 := Lib.hid (atN_succ hf)
    obtain ⟨d, hd⟩ : ∃ d, digU c = d := ⟨_, rfl⟩
    have HDG : Hid (digU c = (decide (48 <= c.toNat) && decide (c.toNat <= 57))) := rfl
    have HD := Lib.hid hd
    obtain ⟨z, hz⟩ : ∃ z, atN k = z := ⟨_, rfl⟩
    rw [hz] at ha5
    have hz0 : (0 : Int) <= (z : Int) := Int.natCast_nonneg _
    have hz5 : (z : Int) < 6 := by omega
    rw [hz]
    have HZ := Lib.hid hz
    clear hg hf hd hz
    go_upto_region 8 with fail
    go_cut [7] from 15 to 24 (fun v wq => v = .bool d /\ wq = wr)
    case first =>
     obtain ⟨x, hx⟩ : ∃ b, decide ((48 : Int) <= ((c.toNat : Nat) : Int)) = b := ⟨_, rfl⟩
     obtain ⟨y, hy⟩ : ∃ b, decide (((c.toNat : Nat) : Int) <= 57) = b := ⟨_, rfl⟩
     have HXY : Hid (d = (x && y)) := by
      unfold Hid
      rw [<- HD.out, HDG.out, <- hx, <- hy]
      congr 1
      ·exact decide_eq_decide.2 (by omega)
      ·exact decide_eq_decide.2 (by omega)
     cases x <;> cases y
     all_goals
      go_wp2_with fail
      go_meet
      exact ⟨by rw [HXY.out]; rfl, rfl⟩
    case rest =>
    obtain ⟨rfl, hwc⟩ := hcut
    obtain rfl : wr = wc := hwc.symm
    obtain ⟨fb, hfb2⟩ : ∃ b, (((f.toNat : Nat) : Int) == 48) = b := ⟨_, rfl⟩
    obtain ⟨cf, hcf⟩ : ∃ b, (((c.toNat : Nat) : Int) != ((f.toNat : Nat) : Int)) = b := ⟨_, rfl⟩
    have HFB : Hid (decide (f = 48) = fb) := by
     unfold Hid
     rw [<- hfb2]
     by_cases h : f = 48
     ·rw [decide_eq_true h, h]; rfl
     ·have h2 : ¬ f.toNat = 48 := fun e => h (UInt8.toNat_inj.1 e)
      rw [decide_eq_false h]
      simp
      omega
    have HCF : Hid (decide (c ≠ f) = cf) := by
     unfold Hid
     rw [<- hcf]
     by_cases h : c = f
     ·rw [h]; simp
     ·have h2 : ¬ c.toNat = f.toNat := fun e => h (UInt8.toNat_inj.1 e)
      rw [decide_eq_true h]
      simp
      omega
    have hcf2 : (((c.toNat : Nat) : Int) == ((f.toNat : Nat) : Int)) = !cf := by
     rw [<- hcf]
     unfold bne
     simp
    have HPO : Hid (posOk f c = !((d != fb) || (!d && cf))) := by
     unfold Hid
     rw [head_test hlt HF.out, HD.out, HFB.out, HCF.out]
    obtain ⟨bad, hbad⟩ : ∃ b, ((d != fb) || (!d && cf)) = b := ⟨_, rfl⟩
    rw [hbad] at HPO
    have HBD := Lib.hid hbad
    clear hbad
    go_upto_region 9 with fail
    go_cut [41] from 25 to 41 (fun v wq => v = .bool bad /\ ∃ q, wq = wr.drewN q)
    case first =>
     cases d <;> cases fb <;> cases cf
     all_goals
      simp only [Bool.not_false, Bool.not_true] at hcf2
      go_wp2_with fail
      go_quiet (fail)
      go_wp2_with fail
      go_meet
      exact ⟨by rw [<- HBD.out]; rfl, _, rfl⟩
    case rest =>
    obtain ⟨rfl, q, hwc⟩ := hcut
    obtain ⟨W9, hW9⟩ : ∃ W, wr.drewN q = W := ⟨_, rfl⟩
    rw [hW9] at hwc
    obtain rfl : W9 = wc := hwc.symm
    have HS9 : Hid (HdS w s.data.toList k W9) := by rw [<- hW9]; exact HS.out.drewN q
    clear hW9 HS hfb2 hcf hcf2
    obtain ⟨a0, a1, a2, a3, a4, a5, hns⟩ := six HI.out.len
    have hN := HS9.out.nums
    have hZe := HS9.out.zero
    cases bad
    ·have HIS := Lib.hid (HI.out.step hlt HF.out HC.out (by rw [HPO.out]; rfl))
     have HST := Lib.hid (hdFold_succ HF.out HC.out)
     have hat : (hdFold s.data.toList k).1 = z := HI.out.at'.trans HZ.out
     have HAT := Lib.hid hat
     clear hat
     cases d
     ·have hfb : fb = false := by
       have h := HBD.out
       cases fb
       ·rfl
       ·cases h
      have hne : f ≠ 48 := by
       have h := HFB.out
       rw [hfb] at h
       exact of_decide_eq_false h
      have HNE := Lib.hid hne
      have HAS : Hid (atN (k + 1) = z + 1) := by unfold Hid; rw [HA1.out, if_neg hne, HZ.out]
      clear hN hZe hns hfb hne
      go_wp2_with fail
      go_roundw
      case rel =>
       refine ⟨k + 1, by omega, by go_num, by rw [HAS.out]; go_num, HIS.out, ⟨?_, HS9.out.zero, HS9.out.below⟩⟩
       rw [HST.out]
       unfold hdStep
       rw [if_neg HNE.out]
       exact HS9.out.nums
      case measure => simp [intOf]; omega
     ·have hfb : fb = true := by
       have h := HBD.out
       cases fb
       ·cases h
       ·rfl
      have hne : f = 48 := by
       have h := HFB.out
       rw [hfb] at h
       exact of_decide_eq_true h
      have HNE := Lib.hid hne
      have HAS : Hid (atN (k + 1) = z) := by unfold Hid; rw [HA1.out, if_pos hne, HZ.out]; rfl
      obtain ⟨hb0, hb1⟩ := HI.out.bound hlt
      rw [HZ.out] at hb0 hb1
      have hgx : (hdFold s.data.toList k).2[z]? = some ((hdFold s.data.toList k).2.getD z 0) := by
       rw [List.getD_eq_getElem?_getD, List.getElem?_eq_getElem (by rw [HI.out.len]; omega)]
       rfl
      have cz := hN.cell hgx
      have hfz := hN.frozen z
      obtain ⟨n, hn⟩ : ∃ n, (hdFold s.data.toList k).2.getD z 0 = n := ⟨_, rfl⟩
      rw [hn] at cz hb0 hb1
      have HNN := Lib.hid hn
      have hdd := HD.out
      unfold digU at hdd
      simp only [Bool.and_eq_true, decide_eq_true_eq] at hdd
      have hE : n * 10 + (((c.toNat : Nat) : Int) - 48) % 256 = stepD n c := by
       unfold stepD
       omega
      have HE := Lib.hid hE
      have hlw := hN.lt
      clear hN hZe hns hfb hne hgx hn hdd hE
      go_upto_region 13 with fail
      go_region
      go_wp2_with fail
      go_roundw
      case rel =>
       refine ⟨k + 1, by omega, by go_num, by rw [HAS.out], HIS.out, ?_⟩
       have hset := HS9.out.nums.set z (stepD n c)
       have hg := grownBy_set W9 (w.heap.size + 1) z (.int .i64 (stepD n c))
       have hzz : HdAt (W9.setCell ⟨w.heap.size + 1, z, none⟩ (.int .i64 (stepD n c))) w.heap.size [0, 0, 0, 0, 0, 0] := HS9.out.zero.keep (hg.block _ (by omega) (fun e => by injection e with e; omega))
       have hbb := Below.setCell HS9.out.below (p := ⟨w.heap.size + 1, z, none⟩) (Nat.le_succ _) (.int .i64 (stepD n c))
       rw [HE.out]
       refine ⟨?_, hzz, hbb.drew⟩
       rw [HST.out]
       unfold hdStep
       rw [if_pos HNE.out, HAT.out, HNN.out]
       exact hset
      case measure => simp [intOf]; omega
    ·have HNO : Hid (hdOk s.data.toList = false) := hd_no HF.out HC.out (by rw [HPO.out]; rfl)
     rw [hns] at hN
     have c0 := hN.cell (j := 0) rfl
     have c1 := hN.cell (j := 1) rfl
     have c2 := hN.cell (j := 2) rfl
     have c3 := hN.cell (j := 3) rfl
     have c4 := hN.cell (j := 4) rfl
     have c5 := hN.cell (j := 5) rfl
     have z0 := hZe.cell (j := 0) rfl
     have z1 := hZe.cell (j := 1) rfl
     have z2 := hZe.cell (j := 2) rfl
     have z3 := hZe.cell (j := 3) rfl
     have z4 := hZe.cell (j := 4) rfl
     have z5 := hZe.cell (j := 5) rfl
     have y := hZe.frozen
     have hlw := hN.lt
     clear hN hZe hns
     go_wp2_with fail
     refine bodyPost_ret (v := .tuple #[.agg #[.int .i64 a0, .int .i64 a1, .int .i64 a2, .int .i64 a3, .int .i64 a4, .int .i64 a5], .bool false]) (by simp [results, Tryz.results160, go_sem, z0, z1, z2, z3, z4, z5]) rfl ⟨?_, Below.six HS9.out.below (Nat.le_refl _) _ _ _ _ _ _⟩
     unfold headRet
     rw [if_neg (by rw [HNO.out]; decide)]
     exact ⟨_, _, _, _, _, _, rfl⟩
   ·obtain rfl : k = 19 := by omega
    have HYES : Hid (hdOk s.data.toList = true) := HI.out.fin HL.out
    have hN := HS.out.nums
    have hZe := HS.out.zero
    rw [hdFold_end HL.out] at hN
    obtain ⟨m0, hm0⟩ : ∃ n, numAt s.data.toList 0 4 = n := ⟨_, rfl⟩
    obtain ⟨m1, hm1⟩ : ∃ n, numAt s.data.toList 5 2 = n := ⟨_, rfl⟩
    obtain ⟨m2, hm2⟩ : ∃ n, numAt s.data.toList 8 2 = n := ⟨_, rfl⟩
    obtain ⟨m3, hm3⟩ : ∃ n, numAt s.data.toList 11 2 = n := ⟨_, rfl⟩
    obtain ⟨m4, hm4⟩ : ∃ n, numAt s.data.toList 14 2 = n := ⟨_, rfl⟩
    obtain ⟨m5, hm5⟩ : ∃ n, numAt s.data.toList 17 2 = n := ⟨_, rfl⟩
    rw [hm0, hm1, hm2, hm3, hm4, hm5] at hN
    have HMM := Lib.hid (And.intro hm0 (And.intro hm1 (And.intro hm2 (And.intro hm3 (And.intro hm4 hm5)))))
    have c0 := hN.cell (j := 0) rfl
    have c1 := hN.cell (j := 1) rfl
    have c2 := hN.cell (j := 2) rfl
    have c3 := hN.cell (j := 3) rfl
    have c4 := hN.cell (j := 4) rfl
    have c5 := hN.cell (j := 5) rfl
    have z0 := hZe.cell (j := 0) rfl
    have z1 := hZe.cell (j := 1) rfl
    have z2 := hZe.cell (j := 2) rfl
    have z3 := hZe.cell (j := 3) rfl
    have z4 := hZe.cell (j := 4) rfl
    have z5 := hZe.cell (j := 5) rfl
    have y := hZe.frozen
    clear hN hZe hm0 hm1 hm2 hm3 hm4 hm5
    go_wp2_with fail
    refine bodyPost_ret (v := .tuple #[.agg #[.int .i64 m0, .int .i64 m1, .int .i64 m2, .int .i64 m3, .int .i64 m4, .int .i64 m5], .bool true]) (by simp [results, Tryz.results160, go_sem, z0, z1, z2, z3, z4, z5]) rfl ⟨?_, Below.six HS.out.below (Nat.le_refl _) _ _ _ _ _ _⟩
    unfold headRet
    obtain ⟨g0, g1, g2, g3, g4, g5⟩ := HMM.out
    rw [if_pos HYES.out, g0, g1, g2, g3, g4, g5]
end
end Go.Proofs.YtffhccmppdgmfaaGreatDoor
