import Derived.Test.YtjhginendpjimaaGreatDoorB25
import Derived.Test.YtjhginendpjimaaGreatDoorB22
import Derived.Test.YtjhginendpjimaaGreatDoorB19
import Derived.Test.YtjhginendpjimaaGreatDoorB05
set_option linter.unusedSimpArgs false
set_option linter.unusedVariables false
set_option maxRecDepth 200000
set_option maxHeartbeats 8000000
namespace Go.Proofs.YtjhginendpjimaaGreatDoor
section
open Go Go.RowKit Go.OpenShut
def CmpAt (W : World) (g : Nat) (p : ByteArray) (d : Bool) : Prop := W.heap[g]? = some (.cells #[.string p, .bool d] 102 (0, 0))
theorem CmpAt.c0 {W : World} {g : Nat} {p : ByteArray} {d : Bool} (h : CmpAt W g p d) : W.cell? ⟨g, 0, none⟩ = some (.string p) := (cell_of_row _ g 0 _ _ _ h).trans rfl
theorem CmpAt.c1 {W : World} {g : Nat} {p : ByteArray} {d : Bool} (h : CmpAt W g p d) : W.cell? ⟨g, 1, none⟩ = some (.bool d) := (cell_of_row _ g 1 _ _ _ h).trans rfl
theorem CmpAt.fz {W : World} {g : Nat} {p : ByteArray} {d : Bool} (h : CmpAt W g p d) (j : Nat) : W.frozen? ⟨g, j, none⟩ = false := by unfold CmpAt at h; simp [World.frozen?, h]
theorem CmpAt.lt {W : World} {g : Nat} {p : ByteArray} {d : Bool} (h : CmpAt W g p d) : g < W.heap.size := (Array.getElem?_eq_some_iff.1 h).1
theorem CmpAt.under {W W' : World} {g B : Nat} {p : ByteArray} {d : Bool} (h : CmpAt W g p d) (hb : Below B W W') (hg : g < B) : CmpAt W' g p d := (hb.block g hg).trans h
theorem CmpAt.keep {W W' : World} {g : Nat} {p : ByteArray} {d : Bool} (h : CmpAt W g p d) (hb : W'.heap[g]? = W.heap[g]?) : CmpAt W' g p d := hb.trans h
theorem CmpAt.set0 {W : World} {g : Nat} {p : ByteArray} {d : Bool} (h : CmpAt W g p d) (s : ByteArray) : CmpAt (W.setCell ⟨g, 0, none⟩ (.string s)) g s d := heap_setCell_same W g 0 _ _ _ h
theorem CmpAt.set1 {W : World} {g : Nat} {p : ByteArray} {d : Bool} (h : CmpAt W g p d) (b : Bool) : CmpAt (W.setCell ⟨g, 1, none⟩ (.bool b)) g p b := heap_setCell_same W g 1 _ _ _ h
theorem CmpAt.other {W : World} {g g' : Nat} {p : ByteArray} {d : Bool} (h : CmpAt W g p d) (hne : g ≠ g') (o : Nat) (v : Value) : CmpAt (W.setCell ⟨g', o, none⟩ v) g p d := (heap_setCell_other W ⟨g', o, none⟩ g v hne).trans h
structure RkS (w W : World) (g2 gc gm : Nat) (m : List (ByteArray × JV)) (j : Nat) (p : ByteArray) (d : Bool) : Prop where
 mp : ∃ l : List ByteArray, (∀ x, x ∈ l ↔ x ∈ (m.take j).map (·.1)) /\ MapF W Tryz.prog 9 gm j (knF l)
 cp : CmpAt W gc p d
 rs : CmpAt W g2 ⟨#[]⟩ false
 below : Below w.heap.size w W
theorem RkS.grown {w W W' : World} {g2 gc gm : Nat} {m : List (ByteArray × JV)} {j : Nat} {p : ByteArray} {d : Bool} (h : RkS w W g2 gc gm m j p d) (hb : Below W.heap.size W W') : RkS w W' g2 gc gm m j p d := by
 obtain ⟨l, h1, h2⟩ := h.mp
 exact ⟨⟨l, h1, h2.below hb h2.lt⟩, h.cp.under hb h.cp.lt, h.rs.under hb h.rs.lt, h.below.trans (hb.mono h.below.size)⟩
theorem RkS.set0 {w W : World} {g2 gc gm : Nat} {m : List (ByteArray × JV)} {j : Nat} {p : ByteArray} {d : Bool} (h : RkS w W g2 gc gm m j p d) (n2c : g2 ≠ gc) (ncm : gc ≠ gm) (hw : w.heap.size <= gc) (s : ByteArray) : RkS w (W.setCell ⟨gc, 0, none⟩ (.string s)) g2 gc gm m j s d := by
 obtain ⟨l, h1, h2⟩ := h.mp
 exact ⟨⟨l, h1, h2.of_block (heap_setCell_other W ⟨gc, 0, none⟩ gm _ (fun e => ncm e.symm))⟩, h.cp.set0 s, h.rs.other n2c 0 _, Below.setCell h.below (p := ⟨gc, 0, none⟩) hw _⟩
theorem RkS.set1 {w W : World} {g2 gc gm : Nat} {m : List (ByteArray × JV)} {j : Nat} {p : ByteArray} {d : Bool} (h : RkS w W g2 gc gm m j p d) (n2c : g2 ≠ gc) (ncm : gc ≠ gm) (hw : w.heap.size <= gc) (b : Bool) : RkS w (W.setCell ⟨gc, 1, none⟩ (.bool b)) g2 gc gm m j p b := by
 obtain ⟨l, h1, h2⟩ := h.mp
 exact ⟨⟨l, h1, h2.of_block (heap_setCell_other W ⟨gc, 1, none⟩ gm _ (fun e => ncm e.symm))⟩, h.cp.set1 b, h.rs.other n2c 1 _, Below.setCell h.below (p := ⟨gc, 1, none⟩) hw _⟩
theorem RkS.known {w W W' : World} {g2 gc gm : Nat} {m : List (ByteArray × JV)} {j : Nat} {p : ByteArray} {d : Bool} (h : RkS w W g2 gc gm m j p d) (n2m : g2 ≠ gm) (ncm : gc ≠ gm) (hw : w.heap.size <= gm) {kl : List ByteArray} {x : ByteArray × JV} (hkl : ∀ y, y ∈ kl ↔ y ∈ (m.take j).map (·.1)) (hx : m[j]? = some x) (hM : MapF W' Tryz.prog 9 gm (j + 1) (fun u => if u = x.1.data.toList then some (.bool true) else knF kl u)) (hG : W.grownBy W' (some gm)) : RkS w W' g2 gc gm m (j + 1) p d := by
 refine ⟨⟨x.1 :: kl, fun y => ?_, by rw [knF_cons]; exact hM⟩, h.cp.keep (hG.block gc h.cp.lt (fun e => ncm (Option.some.inj e))), h.rs.keep (hG.block g2 h.rs.lt (fun e => n2m (Option.some.inj e))), h.below.grown hG h.below.size (fun k e => by cases e; exact hw)⟩
 rw [take_snoc hx, List.map_append, List.mem_append, List.mem_cons, hkl]
 simp
 exact Or.comm
theorem TreeOf.n_eq {w : World} {B : Nat} {t : JV} {r : RV} (h : TreeOf w B t r) : r.n = t.n := by cases h; rfl
theorem knF_yes {l : List ByteArray} {n : ByteArray} (h : n ∈ l) : knF l n.data.toList = some (.bool true) := by
 unfold knF
 rw [if_pos (List.mem_map_of_mem h)]
def RkRet (w : World) (t : JV) (e : Ending) (w' : World) : Prop := ∃ p d, e = .returned (.tuple #[.agg #[.string p, .bool d], .int .i64 (oneE t)]) /\ Hid (oneE t = 0 -> oneC t = ⟨p, d⟩) /\ Below w.heap.size w w'
theorem eq_lit {a : ByteArray} {l : List UInt8} {b : Bool} (h : (a.toList == l) = b) : decide (a = ⟨l.toArray⟩) = b := by
 rw [<- h, ByteArray.toList_eq]
 by_cases e : a = ⟨l.toArray⟩
 ·rw [decide_eq_true e, e]; simp
 ·rw [decide_eq_false e]
  have h2 : a.data.toList ≠ l := fun e2 => e (ByteArray.ext (by rw [<- e2]))
  simpa using h2
theorem rkread_any (t : JV) (r : RV) (w : World) (B : Nat) (hBw : B <= w.heap.size) (ht : TreeOf w B t r) (ot : t.Ok) :
 Calls Tryz.prog 54 #[r.val] w (RkRet w t) := by
 obtain ⟨W0, hW0⟩ : ∃ W0, ((w.alloc r.obj).alloc (.cells #[.string ⟨#[]⟩, .bool false] 102)).alloc (.cells #[.string ⟨#[]⟩, .bool false] 102) = W0 := ⟨_, rfl⟩
 have hA0 : VAt W0 w.heap.size r := by rw [<- hW0]; exact heap_alloc_lt (by simp; omega) (heap_alloc_lt (by simp) (heap_alloc_at rfl))
 have hR0 : CmpAt W0 (w.heap.size + 1) ⟨#[]⟩ false := by rw [<- hW0]; exact heap_alloc_lt (by simp) (heap_alloc_at (by simp))
 have hC0 : CmpAt W0 (w.heap.size + 2) ⟨#[]⟩ false := by rw [<- hW0]; exact heap_alloc_at (by simp)
 have hB0 : Below w.heap.size w W0 := by rw [<- hW0]; exact (below2 w _ _).alloc (by simp; omega) _
 have hz0 : W0.heap.size = w.heap.size + 3 := by rw [<- hW0]; simp
 have hM0 : MapF (W0.alloc (.map #[] 0)) Tryz.prog 9 (w.heap.size + 3) 0 (knF []) := by rw [<- hz0]; exact MapF.made W0 _ _
 have hS0 : RkS w (W0.alloc (.map #[] 0)) (w.heap.size + 1) (w.heap.size + 2) (w.heap.size + 3) t.m 0 ⟨#[]⟩ false := ⟨⟨[], fun x => by simp, hM0⟩, heap_alloc_lt (by omega) hC0, heap_alloc_lt (by omega) hR0, hB0.alloc (by omega) _⟩
 obtain ⟨g2, hg2e⟩ : ∃ g, w.heap.size + 1 = g := ⟨_, rfl⟩
 obtain ⟨gc, hgce⟩ : ∃ g, g2 + 1 = g := ⟨_, rfl⟩
 obtain ⟨gm, hgme⟩ : ∃ g, gc + 1 = g := ⟨_, rfl⟩
 have e2 : w.heap.size + 2 = gc := by omega
 have e3 : w.heap.size + 3 = gm := by omega
 rw [hg2e, e2, e3] at hS0
 rw [hg2e] at hR0
 rw [e2] at hC0
 rw [e3] at hz0
 have hwg : w.heap.size <= g2 := by omega
 have hwc : w.heap.size <= gc := by omega
 have hwm : w.heap.size <= gm := by omega
 have n2c : g2 ≠ gc := by omega
 have n2m : g2 ≠ gm := by omega
 have ncm : gc ≠ gm := by omega
 have HT := Lib.hid ht
 have HO := Lib.hid ot
 have HW := Lib.hid hW0
 have HB0 := Lib.hid hB0
 have HS0 := Lib.hid hS0
 have hkk := ht.kk.1
 obtain ⟨k, n, s, pl, nl, cl, pm, nm, cm⟩ := r
 dsimp only [RV.val, RV.obj] at *
 have r0 := hR0.c0
 have r1 := hR0.c1
 have y0 := hR0.fz 0
 have y1 := hR0.fz 1
 have cc0 := hC0.c0
 have cc1 := hC0.c1
 have hg1 : w.heap.size < W0.heap.size := by omega
 have HR0 := Lib.hid hR0
 clear hW0 hB0 hS0 hM0 ht ot hR0 hC0 e2 e3
 by_cases hk6 : k = 6
 case neg =>
  have q1 : (k == 6) = false := by simpa using hk6
  have q2 : (k != 6) = true := by simpa using hk6
  have HE : Hid (oneE t = 1) := oneE_kind (by rw [<- hkk]; exact hk6)
  clear HS0 hz0 hkk hk6
  go_enter Tryz.func54, Tryz.ntmps54
  go_upto_region 2 with fail
  rw [HW.out]
  clear HW
  obtain ⟨a0, a1, a2, a3, a4⟩ := hA0.cells5
  go_wp2_with fail
  refine bodyPost_ret (v := .tuple #[.agg #[.string ⟨#[]⟩, .bool false], .int .i64 1]) (by simp [results, Tryz.results54, go_sem, r0, r1, y0, y1]) rfl ⟨⟨#[]⟩, false, by rw [HE.out], Lib.hid (fun h => by rw [HE.out] at h; cases h), ?_⟩
  exact (Below.setCell (Below.setCell HB0.out (p := ⟨g2, 0, none⟩) hwg _) (p := ⟨g2, 1, none⟩) hwg _)
 case pos =>
  subst hk6
  have htk : t.k = 6 := hkk.symm
  have HTK := Lib.hid htk
  clear hkk htk
  go_enter Tryz.func54, Tryz.ntmps54
  go_upto_region 2 with fail
  rw [HW.out]
  clear HW
  obtain ⟨a0, a1, a2, a3, a4⟩ := hA0.cells5
  have hmm := @run_makeMap Tryz.prog
  go_upto_region 6 with fail
  clear hmm
  obtain ⟨W1, hW1⟩ : ∃ W, W0.alloc (.map #[] 0) = W := ⟨_, rfl⟩
  rw [hW1] at HS0
  try rw [hW1]
  try rw [hz0]
  have hA1 : VAt W1 w.heap.size ⟨6, n, s, pl, nl, cl, pm, nm, cm⟩ := by rw [<- hW1]; exact heap_alloc_lt hg1 hA0
  clear hW1 hA0 a0 a1 a2 a3 a4 r0 r1 y0 y1 cc0 cc1
  have a4 := hA1.cell 4 rfl
  dsimp only at a4
  have hHT := HT.out
  generalize hr : (⟨6, n, s, pl, nl, cl, pm, nm, cm⟩ : RV) = r at hHT
  cases hHT with
  | @mk _ l m rs rms hl el hcl hm em hcn hcm =>
  subst hr
  dsimp only [JV.m, JV.k] at *
  have HM := Lib.hid hm
  have hnm := rd_nlen hm
  have HCN := Lib.hid hcn
  have HKT : Hid (∀ (i : Nat) (p : ByteArray × JV) (q : RM), m[i]? = some p -> rms[i]? = some q -> q.v.k = p.2.k /\ q.v.s = p.2.s /\ q.v.n = p.2.n) := fun i p q h1 h2 => ⟨(hcm i p q h1 h2).kk.1, (hcm i p q h1 h2).kk.2, (hcm i p q h1 h2).n_eq⟩
  have HNS : Hid (∀ (i : Nat) (p : ByteArray × JV), m[i]? = some p -> p.1.size <= maxLen) := fun i p h => by
   have h9 := HO.out
   cases h9 with
   | mk _ _ _ _ _ _ cs _ => exact Nat.le_trans (cs i p h) (by unfold maxLen; omega)
  have hml : m.length = nm := by omega
  have HML := Lib.hid hml
  have hnmb : nm <= 1466015503658 := by
   have h9 := HO.out
   cases h9 with
   | mk _ _ _ _ hm9 _ _ _ => omega
  have nb : (nm : Int) <= 1466015503658 := by omega
  have HTJ : Hid (∀ v, oneE (JV.mk 6 n s l m) = v -> oneE (JV.mk 6 n s l m) = v) := fun _ h => h
  obtain ⟨E, hE⟩ : ∃ E, oneE (JV.mk 6 n s l m) = E := ⟨_, rfl⟩
  have HE := Lib.hid hE
  obtain ⟨C, hC⟩ : ∃ C, oneC (JV.mk 6 n s l m) = C := ⟨_, rfl⟩
  have HC := Lib.hid hC
  have HRT : Hid (∀ e w', (∃ p d, e = .returned (.tuple #[.agg #[.string p, .bool d], .int .i64 E]) /\ Hid (E = 0 -> C = ⟨p, d⟩) /\ Below w.heap.size w w') -> RkRet w (JV.mk 6 n s l m) e w') := fun e w' h => by
   unfold RkRet
   rw [hE, hC]
   exact h
  clear hE hC hml hnm hm el em hl hcl hcn hcm HTK HTJ HT
  have HTM : Hid ((JV.mk 6 n s l m).k = 6 /\ (JV.mk 6 n s l m).m = m) := ⟨rfl, rfl⟩
  go_wp2_with fail
  clear hA1 a4
  go_loopw [6, 19] (fun s6 i wr => ∃ (j : Nat) (p : ByteArray) (d sup : Bool), j <= nm /\ s6 = .bool sup /\ i = .int .i64 (j : Int) /\ Hid (RkS w wr g2 gc gm m j p d /\ PSt m j p d sup)) (fun _ i _ => nm - (intOf i).toNat)
  case atStart => exact ⟨0, ⟨#[]⟩, false, true, by omega, rfl, rfl, HS0.out, PSt.start m⟩
  case round =>
   obtain ⟨j, p, d, sup, hj, rfl, rfl, hS⟩ := hrel
   have hj0 : (0 : Int) <= (j : Int) := Int.natCast_nonneg _
   by_cases hlt : j < nm
   ·have hj1 : (j : Int) < (nm : Int) := by omega
    obtain ⟨x, hx⟩ : ∃ x, m[j]? = some x := ⟨_, List.getElem?_eq_getElem (by have := HML.out; omega)⟩
    have hmr := HM.out.below (hS.out.1.below.mono hBw) (Nat.le_refl _)
    obtain ⟨q, hq⟩ : ∃ q, rms[j]? = some q := ⟨_, List.getElem?_eq_getElem (by have := rd_nlen hmr; omega)⟩
    obtain ⟨b1, o1, rfl, hb1, hc1⟩ := rd_at' hmr hq
    have hname := HCN.out j x q hx hq
    obtain ⟨hk1, hs1, hn1⟩ := HKT.out j x q hx hq
    have hns := HNS.out j x hx
    obtain ⟨nq, ⟨vk, vn, vs, vpl, vnl, vcl, vpm, vnm, vcm⟩⟩ := q
    dsimp only at hname hk1 hs1 hn1
    have f0 := hc1 0 _ rfl
    have f1 := hc1 1 _ rfl
    have f2 := hc1 2 _ rfl
    have f3 := hc1 3 _ rfl
    have f4 := hc1 4 _ rfl
    have f5 := hc1 5 _ rfl
    rw [Nat.add_zero] at f0
    dsimp only at f0 f1 f2 f3 f4 f5
    rw [hname] at hns
    have HX := Lib.hid hx
    have HNM := Lib.hid hname
    have HVV := Lib.hid (And.intro hk1 (And.intro hs1 hn1))
    have HNZ := Lib.hid hns
    have HSA := Lib.hid (hS.out.1.grown ((Below.refl wr.heap.size wr).alloc (Nat.le_refl _) (.cells #[.string nq, .int .i64 vk, .int .i64 vn, .string vs, .slice vpl vnl vcl, .slice vpm vnm vcm] 46)))
    have HPS := Lib.hid hS.out.2
    have hmt : (wr.alloc (.cells #[.string nq, .int .i64 vk, .int .i64 vn, .string vs, .slice vpl vnl vcl, .slice vpm vnm vcm] 46)).heap[wr.heap.size]? = some (.cells #[.string nq, .int .i64 vk, .int .i64 vn, .string vs, .slice vpl vnl vcl, .slice vpm vnm vcm] 46) := heap_alloc_at rfl
    have hgmr : gm < wr.heap.size := by obtain ⟨lq, _, hlq⟩ := hS.out.1.mp; exact hlq.lt
    have hgcr : gc < wr.heap.size := hS.out.1.cp.lt
    clear hname hk1 hs1 hn1
    go_upto_region 9 with fail
    obtain ⟨g8, hg8⟩ : ∃ g, wr.heap.size = g := ⟨_, rfl⟩
    obtain ⟨W3, hW3⟩ : ∃ W, wr.alloc (.cells #[.string nq, .int .i64 vk, .int .i64 vn, .string vs, .slice vpl vnl vcl, .slice vpm vnm vcm] 46) = W := ⟨_, rfl⟩
    rw [hW3, hg8] at hmt
    rw [hW3] at HSA
    rw [hg8] at hgmr hgcr
    try rw [hW3]
    try rw [hg8]
    clear hW3 hg8 hmr hq hc1 hns hx f0 f1 f2 f3 f4 f5 hS hb1
    have a0 : W3.cell? ⟨g8, 0, none⟩ = some (.string nq) := (cell_of_row _ g8 0 _ _ _ hmt).trans rfl
    obtain ⟨kl, hkl, hMF⟩ := HSA.out.mp
    have HMF := Lib.hid hMF
    have hmlt := hMF.lt
    obtain ⟨sn, hsn⟩ : ∃ b, inS kl nq = b := ⟨_, rfl⟩
    have hlk : (knF kl nq.data.toList).getD (.bool false) = .bool sn := by
     cases sn with
     | true => rw [knF_yes (inS_iff.1 hsn)]; rfl
     | false => rw [knF_not (inS_no.1 hsn)]; rfl
    have HLK := Lib.hid hlk
    have HSN : Hid (inS ((m.take j).map (fun x => x.1)) nq = sn) := by
     unfold Hid
     cases sn with
     | true => exact inS_iff.2 ((hkl _).1 (inS_iff.1 hsn))
     | false => exact inS_no.2 (fun h => inS_no.1 hsn ((hkl _).2 h))
    have HKL := Lib.hid hkl
    have hjb : j <= 1466015503658 := by omega
    clear hlk hsn hkl hMF
    go_upto_region 10 with (at_lookup; refine wpList_look_F _ rfl _ _ _ rfl 9 4 Tryz.underlying9 Tryz.underlying123 (Tryz.zeroValue4 _) _ _ (knF kl) rfl HMF.out nq rfl HNZ.out (v := .bool sn) HLK.out ?_; go_frame)
    go_upto_region 11 with (at_mapUpdate; refine wpList_store_F _ rfl _ _ _ _ rfl 9 4 Tryz.underlying9 Tryz.underlying123 _ _ _ rfl HMF.out (by unfold maxLen; omega) nq rfl HNZ.out (.bool true) rfl ?_; intro w4 hM4 hG4; go_frame)
    have HS4 := Lib.hid (HSA.out.known n2m ncm hwm HKL.out HX.out (by rw [HNM.out]; exact hM4) hG4)
    have hmt4 : w4.heap[g8]? = some (.cells #[.string nq, .int .i64 vk, .int .i64 vn, .string vs, .slice vpl vnl vcl, .slice vpm vnm vcm] 46) := (hG4.block g8 (Array.getElem?_eq_some_iff.1 hmt).1 (fun e => by have := Option.some.inj e; omega)).trans hmt
    have a0' : w4.cell? ⟨g8, 0, none⟩ = some (.string nq) := (cell_of_row _ g8 0 _ _ _ hmt4).trans rfl
    have a1' : w4.cell? ⟨g8, 1, none⟩ = some (.int .i64 vk) := (cell_of_row _ g8 1 _ _ _ hmt4).trans rfl
    have a2' : w4.cell? ⟨g8, 2, none⟩ = some (.int .i64 vn) := (cell_of_row _ g8 2 _ _ _ hmt4).trans rfl
    have a3' : w4.cell? ⟨g8, 3, none⟩ = some (.string vs) := (cell_of_row _ g8 3 _ _ _ hmt4).trans rfl
    have c0 := HS4.out.cp.c0
    have c1 := HS4.out.cp.c1
    have x0 := HS4.out.cp.fz 0
    have x1 := HS4.out.cp.fz 1
    have r0 := HS4.out.rs.c0
    have r1 := HS4.out.rs.c1
    have y0 := HS4.out.rs.fz 0
    have y1 := HS4.out.rs.fz 1
    have HB4 := Lib.hid HS4.out.below
    clear hM4 hG4 hmt hmt4 a0 HSA hmlt
    obtain ⟨e1, he1⟩ : ∃ b, (nq.toList == [112, 114, 111, 112, 101, 114, 116, 121]) = b := ⟨_, rfl⟩
    obtain ⟨e2, he2⟩ : ∃ b, (nq.toList == [105, 115, 65, 115, 99, 101, 110, 100, 105, 110, 103]) = b := ⟨_, rfl⟩
    obtain ⟨e3, he3⟩ : ∃ b, (nq.toList == [99, 111, 108, 108, 97, 116, 105, 111, 110]) = b := ⟨_, rfl⟩
    obtain ⟨s1, hs1⟩ : ∃ b, (vs.toList == [105, 59, 97, 115, 99, 105, 105, 45, 99, 97, 115, 101, 109, 97, 112]) = b := ⟨_, rfl⟩
    obtain ⟨f4, hf4⟩ : ∃ b, (vk == 4) = b := ⟨_, rfl⟩
    obtain ⟨f2, hf2⟩ : ∃ b, (vk == 2) = b := ⟨_, rfl⟩
    obtain ⟨z, hz⟩ : ∃ b, (vn == 0) = b := ⟨_, rfl⟩
    have HE1' : Hid (decide (x.1 = propN) = e1) := by rw [HNM.out]; exact eq_lit he1
    have HE2' : Hid (decide (x.1 = ascN) = e2) := by rw [HNM.out]; exact eq_lit he2
    have HE3' : Hid (decide (x.1 = collN) = e3) := by rw [HNM.out]; exact eq_lit he3
    have HS1' : Hid (decide (x.2.s = asciiN) = s1) := by rw [<- HVV.out.2.1]; exact eq_lit hs1
    have HF4 : Hid (decide (x.2.k = 4) = f4) := by rw [<- HVV.out.1, <- hf4]; unfold Hid; by_cases h : vk = 4 <;> simp [h]
    have HF2 : Hid (decide (x.2.k = 2) = f2) := by rw [<- HVV.out.1, <- hf2]; unfold Hid; by_cases h : vk = 2 <;> simp [h]
    have HZ' : Hid (decide (x.2.n = 0) = z) := by rw [<- HVV.out.2.2, <- hz]; unfold Hid; by_cases h : vn = 0 <;> simp [h]
    have HSE : Hid (sn = false -> x.1 ∉ (m.take j).map (·.1)) := fun h => by rw [HNM.out]; exact inS_no.1 (HSN.out.trans h)
    have HSY : Hid (sn = true -> x.1 ∈ (m.take j).map (·.1)) := fun h => by rw [HNM.out]; exact inS_iff.1 (HSN.out.trans h)
    have HVS : Hid (vs = x.2.s) := HVV.out.2.1
    cases e1 with
    | true =>
      have HN1 : Hid (x.1 = propN) := Lib.hid (of_decide_eq_true HE1'.out)
      clear he2 he3
      cases sn with
      | true =>
        have HE1 : Hid (E = 1) := HE.out.symm.trans (oneE_bad (by rw [HTM.out.2]; exact bad_whole HX.out (.inr (HSY.out rfl))))
        clear HMF HLK HKL HPS
        go_wp2_with fail
        refine bodyPost_ret (v := .tuple #[.agg #[.string vs, .bool d], .int .i64 1]) (by simp [results, Tryz.results54, go_sem, r0, r1, y0, y1, c0, c1, x0, x1, n2c, ncm, n2m]) rfl (HRT.out _ _ ⟨vs, d, by rw [HE1.out], Lib.hid (fun h => by rw [HE1.out] at h; cases h), ?_⟩)
        exact Below.setCell (Below.setCell (Below.setCell HB4.out (p := ⟨gc, 0, none⟩) hwc _) (p := ⟨g2, 0, none⟩) hwg _) (p := ⟨g2, 1, none⟩) hwg _
      | false =>
        cases f4 with
        | true =>
          have HP2 : Hid (PSt m (j + 1) vs d sup) := (by rw [HVS.out]; exact HPS.out.prop HX.out HN1.out (of_decide_eq_true HF4.out) (HSE.out rfl))
          have HS5 := Lib.hid (HS4.out.set0 n2c ncm hwc vs)
          clear HMF HLK HKL HPS
          go_wp2_with fail
          go_roundw
          case rel => exact ⟨j + 1, _, _, _, by omega, rfl, by go_num, HS5.out, HP2.out⟩
          case measure => simp [intOf]; omega
        | false =>
          have HE1 : Hid (E = 1) := HE.out.symm.trans (oneE_bad (by rw [HTM.out.2]; exact bad_whole HX.out (.inl ((memC_prop HN1.out).trans HF4.out))))
          clear HMF HLK HKL HPS
          go_wp2_with fail
          refine bodyPost_ret (v := .tuple #[.agg #[.string vs, .bool d], .int .i64 1]) (by simp [results, Tryz.results54, go_sem, r0, r1, y0, y1, c0, c1, x0, x1, n2c, ncm, n2m]) rfl (HRT.out _ _ ⟨vs, d, by rw [HE1.out], Lib.hid (fun h => by rw [HE1.out] at h; cases h), ?_⟩)
          exact Below.setCell (Below.setCell (Below.setCell HB4.out (p := ⟨gc, 0, none⟩) hwc _) (p := ⟨g2, 0, none⟩) hwg _) (p := ⟨g2, 1, none⟩) hwg _
    | false =>
      have HN1 : Hid (x.1 ≠ propN) := of_decide_eq_false HE1'.out
      cases e2 with
      | true =>
        have HN2 : Hid (x.1 = ascN) := Lib.hid (of_decide_eq_true HE2'.out)
        clear he3
        cases sn with
        | true =>
          have HE1 : Hid (E = 1) := HE.out.symm.trans (oneE_bad (by rw [HTM.out.2]; exact bad_whole HX.out (.inr (HSY.out rfl))))
          clear HMF HLK HKL HPS
          go_wp2_with fail
          refine bodyPost_ret (v := .tuple #[.agg #[.string p, .bool z], .int .i64 1]) (by simp [results, Tryz.results54, go_sem, r0, r1, y0, y1, c0, c1, x0, x1, n2c, ncm, n2m]) rfl (HRT.out _ _ ⟨p, z, by rw [HE1.out], Lib.hid (fun h => by rw [HE1.out] at h; cases h), ?_⟩)
          exact Below.setCell (Below.setCell (Below.setCell HB4.out (p := ⟨gc, 1, none⟩) hwc _) (p := ⟨g2, 0, none⟩) hwg _) (p := ⟨g2, 1, none⟩) hwg _
        | false =>
          cases f2 with
          | true =>
            have HP2 : Hid (PSt m (j + 1) p z sup) := (by rw [<- HZ'.out]; exact HPS.out.asc HX.out HN2.out (of_decide_eq_true HF2.out) (HSE.out rfl))
            have HS5 := Lib.hid (HS4.out.set1 n2c ncm hwc z)
            clear HMF HLK HKL HPS
            go_wp2_with fail
            go_roundw
            case rel => exact ⟨j + 1, _, _, _, by omega, rfl, by go_num, HS5.out, HP2.out⟩
            case measure => simp [intOf]; omega
          | false =>
            have HE1 : Hid (E = 1) := HE.out.symm.trans (oneE_bad (by rw [HTM.out.2]; exact bad_whole HX.out (.inl ((memC_asc HN2.out).trans HF2.out))))
            clear HMF HLK HKL HPS
            go_wp2_with fail
            refine bodyPost_ret (v := .tuple #[.agg #[.string p, .bool z], .int .i64 1]) (by simp [results, Tryz.results54, go_sem, r0, r1, y0, y1, c0, c1, x0, x1, n2c, ncm, n2m]) rfl (HRT.out _ _ ⟨p, z, by rw [HE1.out], Lib.hid (fun h => by rw [HE1.out] at h; cases h), ?_⟩)
            exact Below.setCell (Below.setCell (Below.setCell HB4.out (p := ⟨gc, 1, none⟩) hwc _) (p := ⟨g2, 0, none⟩) hwg _) (p := ⟨g2, 1, none⟩) hwg _
      | false =>
        have HN2 : Hid (x.1 ≠ ascN) := of_decide_eq_false HE2'.out
        cases e3 with
        | true =>
          have HN3 : Hid (x.1 = collN) := Lib.hid (of_decide_eq_true HE3'.out)
          cases sn with
          | true =>
            have HE1 : Hid (E = 1) := HE.out.symm.trans (oneE_bad (by rw [HTM.out.2]; exact bad_whole HX.out (.inr (HSY.out rfl))))
            clear HMF HLK HKL HPS
            go_wp2_with fail
            refine bodyPost_ret (v := .tuple #[.agg #[.string p, .bool d], .int .i64 1]) (by simp [results, Tryz.results54, go_sem, r0, r1, y0, y1, c0, c1, x0, x1, n2c, ncm, n2m]) rfl (HRT.out _ _ ⟨p, d, by rw [HE1.out], Lib.hid (fun h => by rw [HE1.out] at h; cases h), ?_⟩)
            exact Below.setCell (Below.setCell HB4.out (p := ⟨g2, 0, none⟩) hwg _) (p := ⟨g2, 1, none⟩) hwg _
          | false =>
            cases f4 with
            | true =>
              have HP2 : Hid (PSt m (j + 1) p d s1) := (by rw [<- HS1'.out]; exact HPS.out.coll HX.out HN3.out (of_decide_eq_true HF4.out) (HSE.out rfl))
              have HS5 := Lib.hid (HS4.out)
              clear HMF HLK HKL HPS
              go_wp2_with fail
              go_roundw
              case rel => exact ⟨j + 1, _, _, _, by omega, rfl, by go_num, HS5.out, HP2.out⟩
              case measure => simp [intOf]; omega
            | false =>
              have HE1 : Hid (E = 1) := HE.out.symm.trans (oneE_bad (by rw [HTM.out.2]; exact bad_whole HX.out (.inl ((memC_coll HN3.out).trans HF4.out))))
              clear HMF HLK HKL HPS
              go_wp2_with fail
              refine bodyPost_ret (v := .tuple #[.agg #[.string p, .bool d], .int .i64 1]) (by simp [results, Tryz.results54, go_sem, r0, r1, y0, y1, c0, c1, x0, x1, n2c, ncm, n2m]) rfl (HRT.out _ _ ⟨p, d, by rw [HE1.out], Lib.hid (fun h => by rw [HE1.out] at h; cases h), ?_⟩)
              exact Below.setCell (Below.setCell HB4.out (p := ⟨g2, 0, none⟩) hwg _) (p := ⟨g2, 1, none⟩) hwg _
        | false =>
          have HN3 : Hid (x.1 ≠ collN) := of_decide_eq_false HE3'.out
          have HE1 : Hid (E = 1) := HE.out.symm.trans (oneE_bad (by rw [HTM.out.2]; exact bad_whole HX.out (.inl (memC_else HN1.out HN2.out HN3.out))))
          clear HMF HLK HKL HPS
          go_wp2_with fail
          refine bodyPost_ret (v := .tuple #[.agg #[.string p, .bool d], .int .i64 1]) (by simp [results, Tryz.results54, go_sem, r0, r1, y0, y1, c0, c1, x0, x1, n2c, ncm, n2m]) rfl (HRT.out _ _ ⟨p, d, by rw [HE1.out], Lib.hid (fun h => by rw [HE1.out] at h; cases h), ?_⟩)
          exact Below.setCell (Below.setCell HB4.out (p := ⟨g2, 0, none⟩) hwg _) (p := ⟨g2, 1, none⟩) hwg _
   ·obtain rfl : j = nm := by omega
    have HPS := Lib.hid hS.out.2
    have HS4 := Lib.hid hS.out.1
    obtain ⟨kl, hkl, hMF⟩ := hS.out.1.mp
    have HMF := Lib.hid hMF
    have HTK : Hid (m.take j = m) := List.take_of_length_le (by have := HML.out; omega)
    obtain ⟨sn, hsn⟩ : ∃ b, inS kl propN = b := ⟨_, rfl⟩
    have hlk : (knF kl propN.data.toList).getD (.bool false) = .bool sn := by
     cases sn with
     | true => rw [knF_yes (inS_iff.1 hsn)]; rfl
     | false => rw [knF_not (inS_no.1 hsn)]; rfl
    have HLK := Lib.hid hlk
    have HSN : Hid (inS (m.map (fun x => x.1)) propN = sn) := by
     have h1 := hkl propN
     rw [HTK.out] at h1
     unfold Hid
     cases sn with
     | true => exact inS_iff.2 (h1.1 (inS_iff.1 hsn))
     | false => exact inS_no.2 (fun h => inS_no.1 hsn (h1.2 h))
    have HDN : Hid (E = (if sn then (if sup && propOk p then 0 else 210) else 1) /\ (sn = true -> C = ⟨p, d⟩)) := by
     have h1 := PSt.done (v := JV.mk 6 n s l m) HTM.out.1 (p := p) (d := d) (sup := sup) (by rw [HTM.out.2, HML.out]; exact HPS.out)
     rw [HTM.out.2, HSN.out, HE.out, HC.out] at h1
     exact h1
    have c0 := HS4.out.cp.c0
    have c1 := HS4.out.cp.c1
    have r0 := HS4.out.rs.c0
    have r1 := HS4.out.rs.c1
    have y0 := HS4.out.rs.fz 0
    have y1 := HS4.out.rs.fz 1
    have HB4 := Lib.hid HS4.out.below
    have hjb : j <= 1466015503658 := by omega
    clear hlk hsn hkl hMF hS
    go_upto_region 25 with fail
    cases sn with
    | false =>
      have HE1 : Hid (E = 1) := HDN.out.1
      go_wp2_with (at_lookup; refine wpList_look_F _ rfl _ _ _ rfl 9 4 Tryz.underlying9 Tryz.underlying123 (Tryz.zeroValue4 _) _ _ (knF kl) rfl HMF.out propN rfl (by decide) (v := .bool false) HLK.out ?_; go_frame)
      refine bodyPost_ret (v := .tuple #[.agg #[.string p, .bool d], .int .i64 1]) (by simp [results, Tryz.results54, go_sem, r0, r1, y0, y1, c0, c1, n2c, ncm, n2m]) rfl (HRT.out _ _ ⟨p, d, by rw [HE1.out], Lib.hid (fun h => by rw [HE1.out] at h; cases h), ?_⟩)
      exact Below.setCell (Below.setCell HB4.out (p := ⟨g2, 0, none⟩) hwg _) (p := ⟨g2, 1, none⟩) hwg _
    | true =>
      cases sup with
      | false =>
        have HE1 : Hid (E = 210) := HDN.out.1
        go_wp2_with (at_lookup; refine wpList_look_F _ rfl _ _ _ rfl 9 4 Tryz.underlying9 Tryz.underlying123 (Tryz.zeroValue4 _) _ _ (knF kl) rfl HMF.out propN rfl (by decide) (v := .bool true) HLK.out ?_; go_frame)
        refine bodyPost_ret (v := .tuple #[.agg #[.string p, .bool d], .int .i64 210]) (by simp [results, Tryz.results54, go_sem, r0, r1, y0, y1, c0, c1, n2c, ncm, n2m]) rfl (HRT.out _ _ ⟨p, d, by rw [HE1.out], Lib.hid (fun h => by rw [HE1.out] at h; cases h), ?_⟩)
        exact Below.setCell (Below.setCell HB4.out (p := ⟨g2, 0, none⟩) hwg _) (p := ⟨g2, 1, none⟩) hwg _
      | true =>
        obtain ⟨po, hpo⟩ : ∃ b, propOk p = b := ⟨_, rfl⟩
        have HDN2 : Hid (E = (if po then 0 else 210) /\ C = ⟨p, d⟩) := by
         have h := HDN.out
         rw [hpo] at h
         exact ⟨h.1.trans (by cases po <;> rfl), h.2 rfl⟩
        have HPO := Lib.hid hpo
        clear hpo
        go_upto_region 27 with (at_lookup; refine wpList_look_F _ rfl _ _ _ rfl 9 4 Tryz.underlying9 Tryz.underlying123 (Tryz.zeroValue4 _) _ _ (knF kl) rfl HMF.out propN rfl (by decide) (v := .bool true) HLK.out ?_; go_frame)
        have hrd : Rd (wr.alloc (.cells #[.string createdN, .string updatedN, .string givenN, .string surN, .string sur2N] 9)) (wr.heap.size + 1) encS 1 (.slice (some ⟨wr.heap.size, 0, none⟩) 5 5) [createdN, updatedN, givenN, surN, sur2N] := Rd.block (xs := [createdN, updatedN, givenN, surN, sur2N]) codecS (heap_alloc_at rfl) rfl (by omega) (show 5 <= maxLen by decide)
        have hin : inB [createdN, updatedN, givenN, surN, sur2N] p = po := by
         rw [<- HPO.out]
         unfold inB propOk
         simp only [List.any_cons, List.any_nil, Bool.or_false]
         have hs : ∀ a b : ByteArray, decide (a = b) = decide (b = a) := fun a b => decide_eq_decide.2 ⟨fun h => h.symm, fun h => h.symm⟩
         rw [hs createdN, hs updatedN, hs givenN, hs surN, hs sur2N]
        have hct := containsS_rd hrd (by decide) p
        rw [hin] at hct
        have HCT := Lib.hid hct
        have HB5 := Lib.hid (HB4.out.alloc HB4.out.size (.cells #[.string createdN, .string updatedN, .string givenN, .string surN, .string sur2N] 9))
        unfold createdN updatedN givenN surN sur2N at HCT
        have c0' := (HS4.out.cp.under ((Below.refl wr.heap.size wr).alloc (Nat.le_refl _) (.cells #[.string createdN, .string updatedN, .string givenN, .string surN, .string sur2N] 9)) HS4.out.cp.lt).c0
        have r0' := (HS4.out.rs.under ((Below.refl wr.heap.size wr).alloc (Nat.le_refl _) (.cells #[.string createdN, .string updatedN, .string givenN, .string surN, .string sur2N] 9)) HS4.out.rs.lt).c0
        have r1' := (HS4.out.rs.under ((Below.refl wr.heap.size wr).alloc (Nat.le_refl _) (.cells #[.string createdN, .string updatedN, .string givenN, .string surN, .string sur2N] 9)) HS4.out.rs.lt).c1
        have hlg := HS4.out.rs.lt
        have hlc := HS4.out.cp.lt
        unfold createdN updatedN givenN surN sur2N at c0' r0' r1'
        clear hrd hin hct
        cases po with
        | true =>
          go_wp2_with (go_at_call 71; (with_reducible refine HCT.out.mono ?_); rintro e w5 ⟨rfl, rfl⟩)
          refine bodyPost_ret (v := .tuple #[.agg #[.string p, .bool d], .int .i64 0]) (by simp [results, Tryz.results54, go_sem, r0, r1, y0, y1, c0, c1, n2c, ncm, n2m, r0', r1', c0', hlg, hlc]) rfl (HRT.out _ _ ⟨p, d, by rw [HDN2.out.1]; rfl, Lib.hid (fun _ => HDN2.out.2), ?_⟩)
          exact (Below.setCell (Below.setCell HB4.out (p := ⟨g2, 0, none⟩) hwg (.string p)) (p := ⟨g2, 1, none⟩) hwg (.bool d)).alloc (by have := HB4.out.size; simp [World.setCell]; omega) _
        | false =>
          have HE1 : Hid (E = 210) := HDN2.out.1
          go_wp2_with (go_at_call 71; (with_reducible refine HCT.out.mono ?_); rintro e w5 ⟨rfl, rfl⟩)
          refine bodyPost_ret (v := .tuple #[.agg #[.string p, .bool d], .int .i64 210]) (by simp [results, Tryz.results54, go_sem, r0, r1, y0, y1, c0, c1, n2c, ncm, n2m, r0', r1', c0', hlg, hlc]) rfl (HRT.out _ _ ⟨p, d, by rw [HE1.out], Lib.hid (fun h => by rw [HE1.out] at h; cases h), ?_⟩)
          exact (Below.setCell (Below.setCell HB4.out (p := ⟨g2, 0, none⟩) hwg (.string p)) (p := ⟨g2, 1, none⟩) hwg (.bool d)).alloc (by have := HB4.out.size; simp [World.setCell]; omega) _
end
end Go.Proofs.YtjhginendpjimaaGreatDoor
