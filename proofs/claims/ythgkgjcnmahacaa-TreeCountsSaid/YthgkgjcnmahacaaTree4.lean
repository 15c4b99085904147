/- A member found; a map's own list of members; walked. -/
import Derived.Test.YthgkgjcnmahacaaTree3
import Derived.Test.YthgkgjcnmahacaaCloneM
set_option linter.unusedSimpArgs false
set_option linter.unusedVariables false
namespace Go.Proofs.Ythgkgjcnmahacaa
open Go.RowKit Go.OpenShut

/-- A value and a truth are told. -/
def GetRet (w : World) (o : Option JV) (e : Ending) (w' : World) : Prop :=
  ∃ r b, e = .returned (.tuple #[RV.val r, .bool b]) ∧ b = o.isSome ∧ TreeOf w' w'.heap.size (o.getD JV.zero) r ∧ Below w.heap.size w w'

theorem getM {m : List (ByteArray × JV)} {name : ByteArray} {i : Nat} (h : m.findIdx? (fun p => decide (p.1 = name)) = some i) : ∃ p, m[i]? = some p ∧ p.1 = name := by
  rw [List.findIdx?_eq_some_iff_getElem] at h
  obtain ⟨h1, h2, _⟩ := h
  exact ⟨m[i], List.getElem?_eq_getElem h1, by simpa using h2⟩
theorem place_mem {t : JV} {name : ByteArray} {i : Nat} (h : t.place name = some i) : ∃ p, t.m[i]? = some p ∧ t.k = 6 ∧ t.get name = some p.2 := by
  obtain ⟨k, n, s, l, m⟩ := t
  have hp := h
  by_cases hk : k = 6
  · subst hk
    have e : (JV.mk 6 n s l m).mem = m := rfl
    unfold JV.place at h
    rw [e] at h
    obtain ⟨p, h1, h2⟩ := getM h
    refine ⟨p, h1, rfl, ?_⟩
    unfold JV.get
    rw [hp, e]
    simp [h1]
  · have e : (JV.mk k n s l m).mem = [] := by simp [JV.mem, hk]
    unfold JV.place at h
    rw [e] at h
    simp at h
/-- Five cells stored. -/
theorem VAt.stored {W : World} {g : Nat} {r : RV} (h : VAt W g r) (q : RV) :
    VAt (((((W.setCell ⟨g, 0, none⟩ (.int .i64 q.k)).setCell ⟨g, 1, none⟩ (.int .i64 q.n)).setCell ⟨g, 2, none⟩ (.string q.s)).setCell ⟨g, 3, none⟩ (.slice q.pl q.nl q.cl)).setCell ⟨g, 4, none⟩ (.slice q.pm q.nm q.cm)) g q := by
  unfold VAt at h ⊢
  simp [World.setCell, Array.getElem?_modify, h]
theorem VAt.frozen {W : World} {g : Nat} {r : RV} (h : VAt W g r) (j : Nat) : W.frozen? ⟨g, j, none⟩ = false := by
  unfold VAt at h
  simp [World.frozen?, h]
theorem Below.stored {B g : Nat} {w W : World} (h : Below B w W) (hg : B ≤ g) (q : RV) :
    Below B w (((((W.setCell ⟨g, 0, none⟩ (.int .i64 q.k)).setCell ⟨g, 1, none⟩ (.int .i64 q.n)).setCell ⟨g, 2, none⟩ (.string q.s)).setCell ⟨g, 3, none⟩ (.slice q.pl q.nl q.cl)).setCell ⟨g, 4, none⟩ (.slice q.pm q.nm q.cm)) :=
  ((((h.setCell (p := ⟨g, 0, none⟩) hg _).setCell (p := ⟨g, 1, none⟩) hg _).setCell (p := ⟨g, 2, none⟩) hg _).setCell (p := ⟨g, 3, none⟩) hg _).setCell (p := ⟨g, 4, none⟩) hg _

set_option maxRecDepth 100000 in
set_option maxHeartbeats 2000000 in
theorem get_any (t : JV) (r : RV) (name : ByteArray) (w : World) (ht : TreeOf w w.heap.size t r) (ot : t.Ok) :
    Calls Try.prog 51 #[r.val, .string name] w (GetRet w (t.get name)) := by
  obtain ⟨k, n, s, pl, nl, cl, pm, nm, cm⟩ := r
  dsimp only [RV.val] at *
  have HT := Lib.hid ht
  have HO := Lib.hid ot
  have hA0 : VAt ((w.alloc (.cells #[.int .i64 k, .int .i64 n, .string s, .slice pl nl cl, .slice pm nm cm] 25)).alloc (.cells #[.int .i64 0, .int .i64 0, .string ⟨#[]⟩, .slice none 0 0, .slice none 0 0] 25)) w.heap.size ⟨k, n, s, pl, nl, cl, pm, nm, cm⟩ := heap_alloc_lt (by simp) (heap_alloc_at rfl)
  have hA1 : VAt ((w.alloc (.cells #[.int .i64 k, .int .i64 n, .string s, .slice pl nl cl, .slice pm nm cm] 25)).alloc (.cells #[.int .i64 0, .int .i64 0, .string ⟨#[]⟩, .slice none 0 0, .slice none 0 0] 25)) (w.heap.size + 1) RV.zero := heap_alloc_at (by simp)
  have hB0 := below2 w (.cells #[.int .i64 k, .int .i64 n, .string s, .slice pl nl cl, .slice pm nm cm] 25) (.cells #[.int .i64 0, .int .i64 0, .string ⟨#[]⟩, .slice none 0 0, .slice none 0 0] 25)
  clear ht ot
  go_enter Try.func51, Try.ntmps51
  go_upto_region 1 with fail
  obtain ⟨W0, hW0⟩ : ∃ W0, ((w.alloc (.cells #[.int .i64 k, .int .i64 n, .string s, .slice pl nl cl, .slice pm nm cm] 25)).alloc (.cells #[.int .i64 0, .int .i64 0, .string ⟨#[]⟩, .slice none 0 0, .slice none 0 0] 25)) = W0 := ⟨_, rfl⟩
  rw [hW0] at hA0 hA1 hB0 ⊢
  clear hW0
  have p0 := hA0.cell 0 rfl
  have p1 := hA0.cell 1 rfl
  have p2 := hA0.cell 2 rfl
  have p3 := hA0.cell 3 rfl
  have p4 := hA0.cell 4 rfl
  go_upto_region 2 with (go_at_call 78; refine (place_any t ⟨k, n, s, pl, nl, cl, pm, nm, cm⟩ name _ (HT.out.under hB0 hB0.size) HO.out).mono ?_; rintro e w1 ⟨rfl, hb1⟩)
  have hzz : w.heap.size + 1 < W0.heap.size := hA1.lt
  have HA1 : VAt w1 (w.heap.size + 1) RV.zero := hA1.under hb1 hzz
  have HA0 : VAt w1 w.heap.size ⟨k, n, s, pl, nl, cl, pm, nm, cm⟩ := hA0.under hb1 (by omega)
  have HB1 := hB0.trans (hb1.mono hB0.size)
  have hTw := Lib.hid (HT.out.under HB1 (Nat.le_refl _))
  clear p0 p1 p2 p3 p4 hA0 hA1 hB0 hb1
  have z0 := HA1.cell 0 rfl
  have z1 := HA1.cell 1 rfl
  have z2 := HA1.cell 2 rfl
  have z3 := HA1.cell 3 rfl
  have z4 := HA1.cell 4 rfl
  have y0 := HA1.frozen 0
  have y1 := HA1.frozen 1
  have y2 := HA1.frozen 2
  have y3 := HA1.frozen 3
  have y4 := HA1.frozen 4
  have p4 := HA0.cell 4 rfl
  dsimp only [RV.zero] at z0 z1 z2 z3 z4 p4
  have HZ := Lib.hid HA1
  clear HA1 HA0
  generalize hp : t.place name = o
  cases o with
  | none =>
    have HG : Hid (t.get name = none) := by unfold Hid JV.get; rw [hp]; rfl
    have hn : placeI (none : Option Nat) = -1 := rfl
    rw [hn]
    clear hp hn
    go_wp2_with fail
    have HZ2 := HZ.out.stored RV.zero
    refine bodyPost_ret (v := .tuple #[RV.val RV.zero, .bool false]) (by simp [results, Try.results51, go_sem, RV.zero, z0, z1, z2, z3, z4]) rfl ⟨RV.zero, false, rfl, by rw [HG.out]; rfl, by rw [HG.out]; exact TreeOf.zero _ _, Below.stored HB1 (by omega) RV.zero⟩
  | some i =>
    obtain ⟨p, hm1, hk6, hget⟩ := place_mem hp
    have HG := Lib.hid hget
    have hn : placeI (some i) = (i : Int) := rfl
    rw [hn]
    clear hp hn hget
    have hT2 := hTw.out
    generalize hr : (⟨k, n, s, pl, nl, cl, pm, nm, cm⟩ : RV) = r at hT2
    cases hT2 with
    | @mk _ l m rs rms hl el hcl hm em hcn hcm =>
    subst hr
    dsimp only [JV.m] at *
    have hi := (List.getElem?_eq_some_iff.1 hm1).1
    obtain ⟨q, hq⟩ : ∃ q, rms[i]? = some q := ⟨_, List.getElem?_eq_getElem (by omega)⟩
    obtain ⟨b1, o1, rfl, hb1, hc1⟩ := rd_at' hm hq
    have HTq := Lib.hid (hcm i p q hm1 hq)
    have f0 := hc1 0 _ rfl
    have f1 := hc1 1 _ rfl
    have f2 := hc1 2 _ rfl
    have f3 := hc1 3 _ rfl
    have f4 := hc1 4 _ rfl
    have f5 := hc1 5 _ rfl
    have hi0 : (0 : Int) ≤ (i : Int) := Int.natCast_nonneg _
    have hi1 : (i : Int) < (nm : Int) := by have := rd_nlen hm; omega
    clear hcl hcn hcm hl hm em el hc1 hm1 hq
    go_wp2_with fail
    have HZ2 := HZ.out.stored q.v
    have HBs : Below w1.heap.size w1 w1 := Below.refl _ _
    refine bodyPost_ret (v := .tuple #[RV.val q.v, .bool true]) (by simp [results, Try.results51, go_sem, z0, z1, z2, z3, z4]) rfl ⟨q.v, true, rfl, by rw [HG.out]; rfl, ?_, Below.stored HB1 (by omega) q.v⟩
    rw [HG.out]
    exact HTq.out.under (Below.stored (Below.refl _ _) (by omega) q.v) (by have := HB1.size; simp; omega)
end Go.Proofs.Ythgkgjcnmahacaa
