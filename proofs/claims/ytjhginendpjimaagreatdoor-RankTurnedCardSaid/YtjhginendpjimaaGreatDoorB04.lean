import Derived.Test.YtjhginendpjimaaGreatDoorB03
set_option linter.unusedSimpArgs false
set_option linter.unusedVariables false
set_option maxRecDepth 200000
set_option maxHeartbeats 8000000
namespace Go.Proofs.YtjhginendpjimaaGreatDoor
section
open Go Go.RowKit Go.OpenShut
theorem peek_any (w : World) (g en pa : Nat) (t : Tok) (ts : List Tok) (c : UInt8) (b : Bool) (h : RdS w g (t :: ts) en pa) (hb : isM t c = b) : Calls Tryz.prog 88 #[.pointer (some ⟨g, 0, none⟩), .string ⟨#[c]⟩] w fun e w' => e = .returned (.bool b) /\ Below w.heap.size w w' := by
 have HI : Hid (∀ W, Calls Tryz.prog 68 #[t.val, .string ⟨#[c]⟩] W fun e w' => e = .returned (.bool b) /\ Below W.heap.size W w') := fun W => is_any t c W b hb
 obtain ⟨p, cp, h1, h2, h3⟩ := h.len
 have hgl := h1.lt
 obtain ⟨N, hN⟩ : ∃ N, (t :: ts).length = N := ⟨_, rfl⟩
 rw [hN] at h1 h2 h3
 have hN1 : 1 <= N := by rw [<- hN]; simp
 obtain ⟨bb, o, rfl, hbb, hc0⟩ := rd_at' (k := 0) h2 (x := t) rfl
 rw [Nat.zero_mul, Nat.add_zero] at hc0
 obtain ⟨tk, tn, tS, tp⟩ := t
 have f0 : w.cell? ⟨bb, o, none⟩ = some (.int .i64 tk) := hc0 0 _ rfl
 have f1 : w.cell? ⟨bb, o + 1, none⟩ = some (.int .i64 tn) := hc0 1 _ rfl
 have f2 : w.cell? ⟨bb, o + 2, none⟩ = some (.string tS) := hc0 2 _ rfl
 have f3 : w.cell? ⟨bb, o + 3, none⟩ = some (.int .i64 tp) := hc0 3 _ rfl
 have c0 := h1.cell 0 rfl
 have e0 : decide (0 < N) = true := by simp; omega
 have e1 : (0 : Int) < (N : Int) := by omega
 have e2 : 0 < N := hN1
 clear h1 h2 hc0 hN h hb
 obtain ⟨m, hm⟩ : ∃ m : ByteArray, ⟨#[c]⟩ = m := ⟨_, rfl⟩
 rw [hm] at HI ⊢
 clear hm
 go_enter Tryz.func88, Tryz.ntmps88
 go_wp2_with (go_at_call 68; refine (HI.out _).mono ?_; rintro e w1 ⟨rfl, hb1⟩)
 go_ret
 exact ⟨rfl, hb1⟩
theorem RdS.cell2 {W : World} {g en pa : Nat} {ts : List Tok} (h : RdS W g ts en (pa + 1)) : W.cell? ⟨g, 2, none⟩ = some (.int .i64 ((pa : Int) + 1)) := by
 obtain ⟨p, n, c, h1, _⟩ := h.ex
 exact h1.cell 2 rfl
theorem lit_null : (⟨#[110, 117, 108, 108]⟩ : ByteArray).toList = [110, 117, 108, 108] := by rw [ByteArray.toList_eq]
theorem lit_true : (⟨#[116, 114, 117, 101]⟩ : ByteArray).toList = [116, 114, 117, 101] := by rw [ByteArray.toList_eq]
def ValR (w : World) (g : Nat) (v : JV) (ts : List Tok) (en pa : Nat) (e : Ending) (w' : World) : Prop := ∃ r : RV, e = .returned (RV.val r) /\ TreeS w' (Fresh w w') v r /\ RdS w' g ts en pa /\ w.grownBy w' (some g)
theorem VAt.setK {W : World} {g : Nat} {r : RV} (h : VAt W g r) (k : Int) : VAt (W.setCell ⟨g, 0, none⟩ (.int .i64 k)) g { r with k := k } := by
 unfold VAt at h ⊢
 simp [World.setCell, Array.getElem?_modify, h]
theorem VAt.setN {W : World} {g : Nat} {r : RV} (h : VAt W g r) (k : Int) : VAt (W.setCell ⟨g, 1, none⟩ (.int .i64 k)) g { r with n := k } := by
 unfold VAt at h ⊢
 simp [World.setCell, Array.getElem?_modify, h]
theorem VAt.setLs {W : World} {g : Nat} {r : RV} (h : VAt W g r) (p : Option Addr) (n c : Nat) : VAt (W.setCell ⟨g, 3, none⟩ (.slice p n c)) g { r with pl := p, nl := n, cl := c } := by
 unfold VAt at h ⊢
 simp [World.setCell, Array.getElem?_modify, h]
theorem VAt.setMs {W : World} {g : Nat} {r : RV} (h : VAt W g r) (p : Option Addr) (n c : Nat) : VAt (W.setCell ⟨g, 4, none⟩ (.slice p n c)) g { r with pm := p, nm := n, cm := c } := by
 unfold VAt at h ⊢
 simp [World.setCell, Array.getElem?_modify, h]
theorem VAt.keep {W W' : World} {g : Nat} {r : RV} (h : VAt W g r) (hk : W'.heap[g]? = W.heap[g]?) : VAt W' g r := hk.trans h
theorem RdrAt.set2' {W : World} {g en pa : Nat} {v : Value} (h : RdrAt W g v en pa) (x : Int) (k : Nat) (hx : x = k) : RdrAt (W.setCell ⟨g, 2, none⟩ (.int .i64 x)) g v en k := by subst hx; exact h.set2 k
def leafOf (t : Tok) : Option JV := if t.kind = 4 then some (.mk 4 0 t.s [] []) else if t.kind = 2 then if t.s = wNull then some (bareJ 1 0) else if t.s = wTrue then some (bareJ 2 1) else some (bareJ 2 0) else none
theorem leaf_cases {t : Tok} {v : JV} (h : leafOf t = some v) : (t.kind = 4 /\ v = .mk 4 0 t.s [] []) \/ (t.kind = 2 /\ t.s = wNull /\ v = .mk 1 0 ⟨#[]⟩ [] []) \/ (t.kind = 2 /\ t.s = wTrue /\ v = .mk 2 1 ⟨#[]⟩ [] []) \/ (t.kind = 2 /\ t.s ≠ wNull /\ t.s ≠ wTrue /\ v = .mk 2 0 ⟨#[]⟩ [] []) := by
 unfold leafOf at h
 split at h
 ·cases h; exact .inl ⟨‹_›, rfl⟩
 ·split at h
  ·split at h
   ·cases h; exact .inr (.inl ⟨‹_›, ‹_›, rfl⟩)
   ·split at h
    ·cases h; exact .inr (.inr (.inl ⟨‹_›, ‹_›, rfl⟩))
    ·cases h; exact .inr (.inr (.inr ⟨‹_›, ‹_›, ‹_›, rfl⟩))
  ·cases h
theorem value_leaf (w : World) (g en pa deep : Nat) (t : Tok) (ts : List Tok) (v : JV) (h : RdS w g ts en pa) (hd : deep <= 16) (hp : pa < 8192) (hv : leafOf t = some v) :
 Calls Tryz.prog 50 #[.pointer (some ⟨g, 0, none⟩), t.val, .int .i64 deep] w (ValR w g v ts en (pa + 1)) := by
 have hgl := h.lt
 have hlc := leaf_cases hv
 clear hv
 have hg0 := ((World.grownBy_alloc w t.obj none).trans (World.grownBy_alloc _ (.cells #[.int .i64 0, .int .i64 0, .string ⟨#[]⟩, .slice none 0 0, .slice none 0 0] 25) none)).trans (World.grownBy_alloc _ (.cells #[.int .i64 0, .int .i64 0, .string ⟨#[]⟩, .slice none 0 0, .slice none 0 0] 25) none)
 have hT0 : TokAt (((w.alloc t.obj).alloc (.cells #[.int .i64 0, .int .i64 0, .string ⟨#[]⟩, .slice none 0 0, .slice none 0 0] 25)).alloc (.cells #[.int .i64 0, .int .i64 0, .string ⟨#[]⟩, .slice none 0 0, .slice none 0 0] 25)) w.heap.size t := heap_alloc_lt (by simp; omega) (heap_alloc_lt (by simp) (heap_alloc_at rfl))
 have hV1 : VAt (((w.alloc t.obj).alloc (.cells #[.int .i64 0, .int .i64 0, .string ⟨#[]⟩, .slice none 0 0, .slice none 0 0] 25)).alloc (.cells #[.int .i64 0, .int .i64 0, .string ⟨#[]⟩, .slice none 0 0, .slice none 0 0] 25)) (w.heap.size + 1) RV.zero := heap_alloc_lt (by simp) (heap_alloc_at (by simp))
 have hV2 : VAt (((w.alloc t.obj).alloc (.cells #[.int .i64 0, .int .i64 0, .string ⟨#[]⟩, .slice none 0 0, .slice none 0 0] 25)).alloc (.cells #[.int .i64 0, .int .i64 0, .string ⟨#[]⟩, .slice none 0 0, .slice none 0 0] 25)) (w.heap.size + 1 + 1) RV.zero := heap_alloc_at (by simp)
 have hs0 : (((w.alloc t.obj).alloc (.cells #[.int .i64 0, .int .i64 0, .string ⟨#[]⟩, .slice none 0 0, .slice none 0 0] 25)).alloc (.cells #[.int .i64 0, .int .i64 0, .string ⟨#[]⟩, .slice none 0 0, .slice none 0 0] 25)).heap.size = w.heap.size + 3 := by simp
 have hR0 := h.kept hg0 (fun k e => by cases e)
 obtain ⟨tk, tn, tS, tp⟩ := t
 dsimp only [Tok.val, Tok.obj] at *
 clear h
 have d1 : ¬ (16 < (deep : Int)) := by omega
 have d2 : ¬ (16 < deep) := by omega
 have d3 : (deep : Int) <= 16 := by omega
 go_enter Tryz.func50, Tryz.ntmps50
 go_upto_region 3 with fail
 obtain ⟨W0, hW0⟩ : ∃ W0, ((w.alloc (.cells #[.int .i64 tk, .int .i64 tn, .string tS, .int .i64 tp] 97)).alloc (.cells #[.int .i64 0, .int .i64 0, .string ⟨#[]⟩, .slice none 0 0, .slice none 0 0] 25)).alloc (.cells #[.int .i64 0, .int .i64 0, .string ⟨#[]⟩, .slice none 0 0, .slice none 0 0] 25) = W0 := ⟨_, rfl⟩
 rw [hW0] at hg0 hT0 hV1 hV2 hs0 hR0
 try rw [hW0]
 clear hW0
 have a0 := hT0.cell 0 rfl
 have a2 := hT0.cell 2 rfl
 obtain ⟨v0, v1, v2, v3, v4⟩ := hV2.cells5
 have y0 := hV2.frozen 0
 have y1 := hV2.frozen 1
 have y2 := hV2.frozen 2
 have y3 := hV2.frozen 3
 have y4 := hV2.frozen 4
 dsimp only [RV.zero] at v0 v1 v2 v3 v4
 have HG0 := Lib.hid hg0
 have HV1 := Lib.hid hV1
 have HV2 := Lib.hid hV2
 have HR0 := Lib.hid hR0
 have HS0 := Lib.hid hs0
 clear hg0 hT0 hV1 hV2 hR0 hs0
 have KEY : ∀ (k n : Int) (s : ByteArray) (W1 : World), VAt W1 (w.heap.size + 1 + 1) ⟨k, n, s, none, 0, 0, none, 0, 0⟩ -> W0.grownBy W1 (some (w.heap.size + 1 + 1)) -> (VAt W1 (w.heap.size + 1) RV.zero /\ RdS W1 g ts en pa /\ w.grownBy W1 none) := by
  intro k n s W1 h1 h2
  have hs := HS0.out
  exact ⟨HV1.out.keep (h2.block _ HV1.out.lt (by simp)), HR0.out.kept h2 (fun k e => by cases e; omega), HG0.out.new_row h2 (by omega)⟩
 have HK := Lib.hid KEY
 clear KEY
 have FIN : ∀ (k n : Int) (s : ByteArray) (W1 : World), VAt W1 (w.heap.size + 1) RV.zero -> RdS W1 g ts en (pa + 1) -> w.grownBy W1 (some g) -> ValR w g (.mk k n s [] []) ts en (pa + 1) (.returned (RV.val ⟨k, n, s, none, 0, 0, none, 0, 0⟩)) (((((W1.setCell ⟨(w.heap.size + 1), 0, none⟩ (.int .i64 (⟨k, n, s, none, 0, 0, none, 0, 0⟩ : RV).k)).setCell ⟨(w.heap.size + 1), 1, none⟩ (.int .i64 (⟨k, n, s, none, 0, 0, none, 0, 0⟩ : RV).n)).setCell ⟨(w.heap.size + 1), 2, none⟩ (.string (⟨k, n, s, none, 0, 0, none, 0, 0⟩ : RV).s)).setCell ⟨(w.heap.size + 1), 3, none⟩ (.slice (⟨k, n, s, none, 0, 0, none, 0, 0⟩ : RV).pl (⟨k, n, s, none, 0, 0, none, 0, 0⟩ : RV).nl (⟨k, n, s, none, 0, 0, none, 0, 0⟩ : RV).cl)).setCell ⟨(w.heap.size + 1), 4, none⟩ (.slice (⟨k, n, s, none, 0, 0, none, 0, 0⟩ : RV).pm (⟨k, n, s, none, 0, 0, none, 0, 0⟩ : RV).nm (⟨k, n, s, none, 0, 0, none, 0, 0⟩ : RV).cm)) := by
  intro k n s W1 h1 h2 h3
  have hg := grownBy_set5 W1 (w.heap.size + 1) ⟨k, n, s, none, 0, 0, none, 0, 0⟩
  exact ⟨⟨k, n, s, none, 0, 0, none, 0, 0⟩, rfl, TreeS.leaf _ _ _ _ _, h2.kept hg (fun k e => by cases e; omega), h3.new_row hg (by omega)⟩
 have HF := Lib.hid FIN
 clear FIN
 rcases hlc with ⟨rfl, rfl⟩ | ⟨rfl, hw, rfl⟩ | ⟨rfl, hw, rfl⟩ | ⟨rfl, n1, n2, rfl⟩
 ·go_upto_region 17 with fail
  have hv : VAt (((((W0.setCell ⟨w.heap.size + 1 + 1, 0, none⟩ (.int .i64 4)).setCell ⟨w.heap.size + 1 + 1, 1, none⟩ (.int .i64 0)).setCell ⟨w.heap.size + 1 + 1, 2, none⟩ (.string tS)).setCell ⟨w.heap.size + 1 + 1, 3, none⟩ (.slice none 0 0)).setCell ⟨w.heap.size + 1 + 1, 4, none⟩ (.slice none 0 0)) (w.heap.size + 1 + 1) ⟨4, 0, tS, none, 0, 0, none, 0, 0⟩ := HV2.out.stored ⟨4, 0, tS, none, 0, 0, none, 0, 0⟩
  have hg : W0.grownBy (((((W0.setCell ⟨w.heap.size + 1 + 1, 0, none⟩ (.int .i64 4)).setCell ⟨w.heap.size + 1 + 1, 1, none⟩ (.int .i64 0)).setCell ⟨w.heap.size + 1 + 1, 2, none⟩ (.string tS)).setCell ⟨w.heap.size + 1 + 1, 3, none⟩ (.slice none 0 0)).setCell ⟨w.heap.size + 1 + 1, 4, none⟩ (.slice none 0 0)) (some (w.heap.size + 1 + 1)) := grownBy_set5 W0 _ ⟨4, 0, tS, none, 0, 0, none, 0, 0⟩
  obtain ⟨W1, hW1⟩ : ∃ W1, (((((W0.setCell ⟨w.heap.size + 1 + 1, 0, none⟩ (.int .i64 4)).setCell ⟨w.heap.size + 1 + 1, 1, none⟩ (.int .i64 0)).setCell ⟨w.heap.size + 1 + 1, 2, none⟩ (.string tS)).setCell ⟨w.heap.size + 1 + 1, 3, none⟩ (.slice none 0 0)).setCell ⟨w.heap.size + 1 + 1, 4, none⟩ (.slice none 0 0)) = W1 := ⟨_, rfl⟩
  rw [hW1] at hv hg
  try rw [hW1]
  clear hW1
  obtain ⟨h1, h2, h3⟩ := HK.out 4 0 tS W1 hv hg
  obtain ⟨p, nn, c, hr, hrd⟩ := h2.ex
  have c2 := hr.cell 2 rfl
  have z2 := hr.frozen 2
  have hgx := grownBy_set W1 g 2 (.int .i64 ((pa : Int) + 1))
  have hR3 : RdS (W1.setCell ⟨g, 2, none⟩ (.int .i64 ((pa : Int) + 1))) g ts en (pa + 1) := ⟨p, nn, c, hr.set2' _ _ (by omega), hrd.below (below_of hgx (by have := hr.lt; omega) (fun k e => by cases e; exact Nat.le_refl _)) (Nat.le_refl _)⟩
  have hV3 := h1.keep (hgx.block _ h1.lt (by simp; omega))
  have hV4 := hv.keep (hgx.block _ hv.lt (by simp; omega))
  have hG3 := h3.keep_some hgx
  go_upto_region 20 with fail
  have c3 := hR3.cell2
  obtain ⟨W2, hW2⟩ : ∃ W2, W1.setCell ⟨g, 2, none⟩ (.int .i64 ((pa : Int) + 1)) = W2 := ⟨_, rfl⟩
  rw [hW2] at hR3 hV3 hV4 hG3 c3
  try rw [hW2]
  clear hW2 c2 z2 v0 v1 v2 v3 v4 y0 y1 y2 y3 y4 a0 a2 hgx hr hrd h1 h2 h3 hv hg
  obtain ⟨v0, v1, v2, v3, v4⟩ := hV4.cells5
  obtain ⟨z0, z1, z2, z3, z4⟩ := hV3.cells5
  have y0 := hV3.frozen 0
  have y1 := hV3.frozen 1
  have y2 := hV3.frozen 2
  have y3 := hV3.frozen 3
  have y4 := hV3.frozen 4
  dsimp only [RV.zero] at v0 v1 v2 v3 v4 z0 z1 z2 z3 z4
  have HR3 := Lib.hid hR3
  have HV3 := Lib.hid hV3
  have HG3 := Lib.hid hG3
  clear hR3 hV3 hV4 hG3
  go_wp2_with fail
  exact bodyPost_ret (v := RV.val ⟨4, 0, tS, none, 0, 0, none, 0, 0⟩) (by simp [results, Tryz.results50, go_sem, z0, z1, z2, z3, z4]) rfl (HF.out 4 0 tS W2 HV3.out HR3.out HG3.out)
 ·obtain rfl : tS = ⟨#[110, 117, 108, 108]⟩ := hw
  go_upto_region 17 with fail
  have hv : VAt (W0.setCell ⟨w.heap.size + 1 + 1, 0, none⟩ (.int .i64 1)) (w.heap.size + 1 + 1) ⟨1, 0, ⟨#[]⟩, none, 0, 0, none, 0, 0⟩ := HV2.out.setK 1
  have hg : W0.grownBy (W0.setCell ⟨w.heap.size + 1 + 1, 0, none⟩ (.int .i64 1)) (some (w.heap.size + 1 + 1)) := grownBy_set _ _ _ _
  obtain ⟨W1, hW1⟩ : ∃ W1, (W0.setCell ⟨w.heap.size + 1 + 1, 0, none⟩ (.int .i64 1)) = W1 := ⟨_, rfl⟩
  rw [hW1] at hv hg
  try rw [hW1]
  clear hW1
  obtain ⟨h1, h2, h3⟩ := HK.out 1 0 ⟨#[]⟩ W1 hv hg
  obtain ⟨p, nn, c, hr, hrd⟩ := h2.ex
  have c2 := hr.cell 2 rfl
  have z2 := hr.frozen 2
  have hgx := grownBy_set W1 g 2 (.int .i64 ((pa : Int) + 1))
  have hR3 : RdS (W1.setCell ⟨g, 2, none⟩ (.int .i64 ((pa : Int) + 1))) g ts en (pa + 1) := ⟨p, nn, c, hr.set2' _ _ (by omega), hrd.below (below_of hgx (by have := hr.lt; omega) (fun k e => by cases e; exact Nat.le_refl _)) (Nat.le_refl _)⟩
  have hV3 := h1.keep (hgx.block _ h1.lt (by simp; omega))
  have hV4 := hv.keep (hgx.block _ hv.lt (by simp; omega))
  have hG3 := h3.keep_some hgx
  go_upto_region 20 with fail
  have c3 := hR3.cell2
  obtain ⟨W2, hW2⟩ : ∃ W2, W1.setCell ⟨g, 2, none⟩ (.int .i64 ((pa : Int) + 1)) = W2 := ⟨_, rfl⟩
  rw [hW2] at hR3 hV3 hV4 hG3 c3
  try rw [hW2]
  clear hW2 c2 z2 v0 v1 v2 v3 v4 y0 y1 y2 y3 y4 a0 a2 hgx hr hrd h1 h2 h3 hv hg
  obtain ⟨v0, v1, v2, v3, v4⟩ := hV4.cells5
  obtain ⟨z0, z1, z2, z3, z4⟩ := hV3.cells5
  have y0 := hV3.frozen 0
  have y1 := hV3.frozen 1
  have y2 := hV3.frozen 2
  have y3 := hV3.frozen 3
  have y4 := hV3.frozen 4
  dsimp only [RV.zero] at v0 v1 v2 v3 v4 z0 z1 z2 z3 z4
  have HR3 := Lib.hid hR3
  have HV3 := Lib.hid hV3
  have HG3 := Lib.hid hG3
  clear hR3 hV3 hV4 hG3
  go_wp2_with fail
  exact bodyPost_ret (v := RV.val ⟨1, 0, ⟨#[]⟩, none, 0, 0, none, 0, 0⟩) (by simp [results, Tryz.results50, go_sem, z0, z1, z2, z3, z4]) rfl (HF.out 1 0 ⟨#[]⟩ W2 HV3.out HR3.out HG3.out)
 ·obtain rfl : tS = ⟨#[116, 114, 117, 101]⟩ := hw
  go_upto_region 17 with fail
  have hv : VAt ((W0.setCell ⟨w.heap.size + 1 + 1, 0, none⟩ (.int .i64 2)).setCell ⟨w.heap.size + 1 + 1, 1, none⟩ (.int .i64 1)) (w.heap.size + 1 + 1) ⟨2, 1, ⟨#[]⟩, none, 0, 0, none, 0, 0⟩ := (HV2.out.setK 2).setN 1
  have hg : W0.grownBy ((W0.setCell ⟨w.heap.size + 1 + 1, 0, none⟩ (.int .i64 2)).setCell ⟨w.heap.size + 1 + 1, 1, none⟩ (.int .i64 1)) (some (w.heap.size + 1 + 1)) := (grownBy_set _ _ _ _).trans (grownBy_set _ _ _ _)
  obtain ⟨W1, hW1⟩ : ∃ W1, ((W0.setCell ⟨w.heap.size + 1 + 1, 0, none⟩ (.int .i64 2)).setCell ⟨w.heap.size + 1 + 1, 1, none⟩ (.int .i64 1)) = W1 := ⟨_, rfl⟩
  rw [hW1] at hv hg
  try rw [hW1]
  clear hW1
  obtain ⟨h1, h2, h3⟩ := HK.out 2 1 ⟨#[]⟩ W1 hv hg
  obtain ⟨p, nn, c, hr, hrd⟩ := h2.ex
  have c2 := hr.cell 2 rfl
  have z2 := hr.frozen 2
  have hgx := grownBy_set W1 g 2 (.int .i64 ((pa : Int) + 1))
  have hR3 : RdS (W1.setCell ⟨g, 2, none⟩ (.int .i64 ((pa : Int) + 1))) g ts en (pa + 1) := ⟨p, nn, c, hr.set2' _ _ (by omega), hrd.below (below_of hgx (by have := hr.lt; omega) (fun k e => by cases e; exact Nat.le_refl _)) (Nat.le_refl _)⟩
  have hV3 := h1.keep (hgx.block _ h1.lt (by simp; omega))
  have hV4 := hv.keep (hgx.block _ hv.lt (by simp; omega))
  have hG3 := h3.keep_some hgx
  go_upto_region 20 with fail
  have c3 := hR3.cell2
  obtain ⟨W2, hW2⟩ : ∃ W2, W1.setCell ⟨g, 2, none⟩ (.int .i64 ((pa : Int) + 1)) = W2 := ⟨_, rfl⟩
  rw [hW2] at hR3 hV3 hV4 hG3 c3
  try rw [hW2]
  clear hW2 c2 z2 v0 v1 v2 v3 v4 y0 y1 y2 y3 y4 a0 a2 hgx hr hrd h1 h2 h3 hv hg
  obtain ⟨v0, v1, v2, v3, v4⟩ := hV4.cells5
  obtain ⟨z0, z1, z2, z3, z4⟩ := hV3.cells5
  have y0 := hV3.frozen 0
  have y1 := hV3.frozen 1
  have y2 := hV3.frozen 2
  have y3 := hV3.frozen 3
  have y4 := hV3.frozen 4
  dsimp only [RV.zero] at v0 v1 v2 v3 v4 z0 z1 z2 z3 z4
  have HR3 := Lib.hid hR3
  have HV3 := Lib.hid hV3
  have HG3 := Lib.hid hG3
  clear hR3 hV3 hV4 hG3
  go_wp2_with fail
  exact bodyPost_ret (v := RV.val ⟨2, 1, ⟨#[]⟩, none, 0, 0, none, 0, 0⟩) (by simp [results, Tryz.results50, go_sem, z0, z1, z2, z3, z4]) rfl (HF.out 2 1 ⟨#[]⟩ W2 HV3.out HR3.out HG3.out)
 ·have q1 : (tS.toList == [110, 117, 108, 108]) = false := by rw [<- lit_null, str_beq]; exact decide_eq_false n1
  have q2 : (tS.toList == [116, 114, 117, 101]) = false := by rw [<- lit_true, str_beq]; exact decide_eq_false n2
  clear n1 n2
  go_upto_region 17 with fail
  have hv : VAt (W0.setCell ⟨w.heap.size + 1 + 1, 0, none⟩ (.int .i64 2)) (w.heap.size + 1 + 1) ⟨2, 0, ⟨#[]⟩, none, 0, 0, none, 0, 0⟩ := HV2.out.setK 2
  have hg : W0.grownBy (W0.setCell ⟨w.heap.size + 1 + 1, 0, none⟩ (.int .i64 2)) (some (w.heap.size + 1 + 1)) := grownBy_set _ _ _ _
  obtain ⟨W1, hW1⟩ : ∃ W1, (W0.setCell ⟨w.heap.size + 1 + 1, 0, none⟩ (.int .i64 2)) = W1 := ⟨_, rfl⟩
  rw [hW1] at hv hg
  try rw [hW1]
  clear hW1
  obtain ⟨h1, h2, h3⟩ := HK.out 2 0 ⟨#[]⟩ W1 hv hg
  obtain ⟨p, nn, c, hr, hrd⟩ := h2.ex
  have c2 := hr.cell 2 rfl
  have z2 := hr.frozen 2
  have hgx := grownBy_set W1 g 2 (.int .i64 ((pa : Int) + 1))
  have hR3 : RdS (W1.setCell ⟨g, 2, none⟩ (.int .i64 ((pa : Int) + 1))) g ts en (pa + 1) := ⟨p, nn, c, hr.set2' _ _ (by omega), hrd.below (below_of hgx (by have := hr.lt; omega) (fun k e => by cases e; exact Nat.le_refl _)) (Nat.le_refl _)⟩
  have hV3 := h1.keep (hgx.block _ h1.lt (by simp; omega))
  have hV4 := hv.keep (hgx.block _ hv.lt (by simp; omega))
  have hG3 := h3.keep_some hgx
  go_upto_region 20 with fail
  have c3 := hR3.cell2
  obtain ⟨W2, hW2⟩ : ∃ W2, W1.setCell ⟨g, 2, none⟩ (.int .i64 ((pa : Int) + 1)) = W2 := ⟨_, rfl⟩
  rw [hW2] at hR3 hV3 hV4 hG3 c3
  try rw [hW2]
  clear hW2 c2 z2 v0 v1 v2 v3 v4 y0 y1 y2 y3 y4 a0 a2 hgx hr hrd h1 h2 h3 hv hg
  obtain ⟨v0, v1, v2, v3, v4⟩ := hV4.cells5
  obtain ⟨z0, z1, z2, z3, z4⟩ := hV3.cells5
  have y0 := hV3.frozen 0
  have y1 := hV3.frozen 1
  have y2 := hV3.frozen 2
  have y3 := hV3.frozen 3
  have y4 := hV3.frozen 4
  dsimp only [RV.zero] at v0 v1 v2 v3 v4 z0 z1 z2 z3 z4
  have HR3 := Lib.hid hR3
  have HV3 := Lib.hid hV3
  have HG3 := Lib.hid hG3
  clear hR3 hV3 hV4 hG3
  go_wp2_with fail
  exact bodyPost_ret (v := RV.val ⟨2, 0, ⟨#[]⟩, none, 0, 0, none, 0, 0⟩) (by simp [results, Tryz.results50, go_sem, z0, z1, z2, z3, z4]) rfl (HF.out 2 0 ⟨#[]⟩ W2 HV3.out HR3.out HG3.out)
end
end Go.Proofs.YtjhginendpjimaaGreatDoor
