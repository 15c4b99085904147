/- tree.Without, walked. -/
import Derived.Test.YthgkgjcnmahacaaWout
set_option linter.unusedSimpArgs false
set_option linter.unusedVariables false
namespace Go.Proofs.Ythgkgjcnmahacaa
open Go.RowKit Go.OpenShut

theorem MemsOf.uncons {w : World} {B : Nat} {p : ByteArray × JV} {q : RM} {ms : List (ByteArray × JV)} {rms : List RM} (h : MemsOf w B (p :: ms) (q :: rms)) : p.1 = q.name ∧ TreeOf w B p.2 q.v ∧ MemsOf w B ms rms :=
  ⟨h.name 0 p q rfl rfl, h.val 0 p q rfl rfl, ⟨by have := h.len; simpa using this, fun i a b h1 h2 => h.name (i + 1) a b (by simpa using h1) (by simpa using h2), fun i a b h1 h2 => h.val (i + 1) a b (by simpa using h1) (by simpa using h2)⟩⟩
theorem MemsOf.cons {w : World} {B : Nat} {p : ByteArray × JV} {q : RM} {ms : List (ByteArray × JV)} {rms : List RM} (hn : p.1 = q.name) (ht : TreeOf w B p.2 q.v) (h : MemsOf w B ms rms) : MemsOf w B (p :: ms) (q :: rms) := by
  refine ⟨by simp [h.len], fun i a b h1 h2 => ?_, fun i a b h1 h2 => ?_⟩
  · cases i with
    | zero => simp at h1 h2; subst h1 h2; exact hn
    | succ i => exact h.name i a b (by simpa using h1) (by simpa using h2)
  · cases i with
    | zero => simp at h1 h2; subst h1 h2; exact ht
    | succ i => exact h.val i a b (by simpa using h1) (by simpa using h2)
theorem MemsOf.filter {w : World} {B : Nat} {f : ByteArray × JV → Bool} {g : RM → Bool} (hfg : ∀ p q, p.1 = q.name → f p = g q) : ∀ {ms : List (ByteArray × JV)} {rms : List RM}, MemsOf w B ms rms → MemsOf w B (ms.filter f) (rms.filter g)
  | [], [], h => MemsOf.nil _ _
  | [], q :: rms, h => by have := h.len; simp at this
  | p :: ms, [], h => by have := h.len; simp at this
  | p :: ms, q :: rms, h => by
    obtain ⟨h1, h2, h3⟩ := h.uncons
    have ih := MemsOf.filter hfg h3
    rw [List.filter_cons, List.filter_cons, hfg p q h1]
    split
    · exact ih.cons h1 h2
    · exact ih
/-- What a map without a name has. -/
def cutM (ms : List (ByteArray × JV)) (name : ByteArray) : List (ByteArray × JV) := ms.filter (fun p => !decide (p.1 = name))

/-- The last step: the map is laid into its result. -/
theorem MapRet.fin {w W0 W : World} {B g : Nat} {pm : Option Addr} {nm cm : Nat} {rms : List RM} {ms : List (ByteArray × JV)} (hBw : B ≤ w.heap.size) (hg : w.heap.size ≤ g) (hg0 : g < W0.heap.size) (hb0 : w.heap.size ≤ W0.heap.size) (hb : Below w.heap.size w W) (ho : Own W W0.heap.size 90 encM 6 (.slice pm nm cm) rms) (hm : MemsOf W B ms rms) :
    MapRet w B ms (.returned (RV.val ⟨6, 0, ⟨#[]⟩, none, 0, 0, pm, nm, cm⟩)) (((((W.setCell ⟨g, 0, none⟩ (.int .i64 6)).setCell ⟨g, 1, none⟩ (.int .i64 0)).setCell ⟨g, 2, none⟩ (.string ⟨#[]⟩)).setCell ⟨g, 3, none⟩ (.slice none 0 0)).setCell ⟨g, 4, none⟩ (.slice pm nm cm)) := by
  have hlt := ho.lt
  refine ⟨pm, nm, cm, rms, rfl, ?_, hm.under (Below.stored (Below.refl _ _) (by omega) ⟨6, 0, ⟨#[]⟩, none, 0, 0, pm, nm, cm⟩) (Nat.le_refl _), Below.stored hb hg ⟨6, 0, ⟨#[]⟩, none, 0, 0, pm, nm, cm⟩⟩
  refine (ho.mono hb0).kept (grownBy_set5 W g ⟨6, 0, ⟨#[]⟩, none, 0, 0, pm, nm, cm⟩) ?_
  cases hob : (Value.slice pm nm cm).ownBlock with
  | none => exact .inl rfl
  | some j =>
    refine .inr (fun h => ?_)
    have := (hlt j hob).1
    injection h with h
    omega

set_option maxRecDepth 100000 in
set_option maxHeartbeats 2000000 in
theorem without_any (t : JV) (r : RV) (name : ByteArray) (w : World) (B : Nat) (hBw : B ≤ w.heap.size) (ht : TreeOf w B t r) (ot : t.Ok) (hlen : t.mem.length ≤ 1466015503658) :
    Calls Try.prog 38 #[r.val, .string name] w (MapRet w B (cutM t.mem name)) := by
  obtain ⟨k, n, s, pl, nl, cl, pm, nm, cm⟩ := r
  dsimp only [RV.val] at *
  have HT := Lib.hid ht
  have HO := Lib.hid ot
  have HL := Lib.hid hlen
  have hA0 : VAt (((w.alloc (.cells #[.int .i64 k, .int .i64 n, .string s, .slice pl nl cl, .slice pm nm cm] 25)).alloc (.cells #[.string name] 9)).alloc (.cells #[.int .i64 0, .int .i64 0, .string ⟨#[]⟩, .slice none 0 0, .slice none 0 0] 25)) w.heap.size ⟨k, n, s, pl, nl, cl, pm, nm, cm⟩ := heap_alloc_lt (by simp; omega) (heap_alloc_lt (by simp) (heap_alloc_at rfl))
  have hA1 : (((w.alloc (.cells #[.int .i64 k, .int .i64 n, .string s, .slice pl nl cl, .slice pm nm cm] 25)).alloc (.cells #[.string name] 9)).alloc (.cells #[.int .i64 0, .int .i64 0, .string ⟨#[]⟩, .slice none 0 0, .slice none 0 0] 25)).heap[w.heap.size + 1]? = some (.cells #[.string name] 9 (0, 0)) := heap_alloc_lt (by simp) (heap_alloc_at (by simp))
  have hA2 : VAt (((w.alloc (.cells #[.int .i64 k, .int .i64 n, .string s, .slice pl nl cl, .slice pm nm cm] 25)).alloc (.cells #[.string name] 9)).alloc (.cells #[.int .i64 0, .int .i64 0, .string ⟨#[]⟩, .slice none 0 0, .slice none 0 0] 25)) (w.heap.size + 1 + 1) RV.zero := heap_alloc_at (by simp)
  have hB0 := (below2 w (.cells #[.int .i64 k, .int .i64 n, .string s, .slice pl nl cl, .slice pm nm cm] 25) (.cells #[.string name] 9)).alloc (by simp; omega) (.cells #[.int .i64 0, .int .i64 0, .string ⟨#[]⟩, .slice none 0 0, .slice none 0 0] 25)
  clear ht ot hlen
  go_enter Try.func38, Try.ntmps38
  go_upto_region 1 with fail
  obtain ⟨W0, hW0⟩ : ∃ W0, (((w.alloc (.cells #[.int .i64 k, .int .i64 n, .string s, .slice pl nl cl, .slice pm nm cm] 25)).alloc (.cells #[.string name] 9)).alloc (.cells #[.int .i64 0, .int .i64 0, .string ⟨#[]⟩, .slice none 0 0, .slice none 0 0] 25)) = W0 := ⟨_, rfl⟩
  rw [hW0] at hA0 hA1 hA2 hB0 ⊢
  clear hW0
  have p0 := hA0.cell 0 rfl
  have p1 := hA0.cell 1 rfl
  have p2 := hA0.cell 2 rfl
  have p3 := hA0.cell 3 rfl
  have p4 := hA0.cell 4 rfl
  have hzz : w.heap.size + 1 + 1 < W0.heap.size := hA2.lt
  have hnm0 : W0.cell? ⟨w.heap.size + 1, 0, none⟩ = some (.string name) := by rw [cell_of_row W0 _ 0 _ _ _ hA1]; rfl
  have HNM := Lib.hid hnm0
  clear hnm0 hA1
  go_upto_region 2 with (first
    | (go_at_call 77; refine (members_any t ⟨k, n, s, pl, nl, cl, pm, nm, cm⟩ _ B (Nat.le_trans hBw hB0.size) (HT.out.under (hB0.mono hBw) (Nat.le_refl _)) HO.out).mono ?_; rintro e w1 ⟨pp, pn, pc, rms, rfl, ho1, hms1, hb1⟩)
    | (go_at_call 79; refine (deleteFunc_any _ W0.heap.size pp pn pc rms ho1 hb1.size (w.heap.size + 1) name (bcs hb1 (by omega) HNM.out) (by omega) (by have := hms1.len; have := HL.out; omega)).mono ?_; rintro e w2 ⟨m, rfl, ho2, hb2⟩))
  have HB1 : Below w.heap.size w w2 := hB0.trans ((hb1.mono hB0.size).trans (hb2.mono hB0.size))
  have HZ : VAt w2 (w.heap.size + 1 + 1) RV.zero := hA2.under (hb1.trans hb2) (by omega)
  have z0 := HZ.cell 0 rfl
  have z1 := HZ.cell 1 rfl
  have z2 := HZ.cell 2 rfl
  have z3 := HZ.cell 3 rfl
  have z4 := HZ.cell 4 rfl
  dsimp only [RV.zero] at z0 z1 z2 z3 z4
  have y0 := HZ.frozen 0
  have y1 := HZ.frozen 1
  have y2 := HZ.frozen 2
  have y3 := HZ.frozen 3
  have y4 := HZ.frozen 4
  have HM2 := Lib.hid ((hms1.filter (f := fun p => !decide (p.1 = name)) (g := fun x => !nameB name x) (fun p q h => by unfold nameB; rw [h])).under (hb2.mono (Nat.le_trans hBw hB0.size)) (Nat.le_refl _))
  have HO2 := Lib.hid ho2
  clear p0 p1 p2 p3 p4 hA0 hA2 ho1 hms1 hb1 hb2 ho2
  go_wp2_with fail
  exact bodyPost_ret (v := RV.val ⟨6, 0, ⟨#[]⟩, none, 0, 0, pp, m, pc⟩) (by simp [results, Try.results38, go_sem, z0, z1, z2, z3, z4]) rfl (MapRet.fin hBw (by omega) hzz hB0.size HB1 HO2.out HM2.out)
end Go.Proofs.Ythgkgjcnmahacaa
