import Derived.Test.YtffhccmppdgmfaaGreatDoorF13
import Derived.Deep.LoopGhost
import Derived.Test.YtffhccmppdgmfaaGreatDoorF09
import Derived.Test.YtffhccmppdgmfaaGreatDoorF04
set_option linter.unusedSimpArgs false
set_option linter.unusedVariables false
set_option maxRecDepth 200000
set_option maxHeartbeats 8000000
namespace Go.Proofs.YtffhccmppdgmfaaGreatDoor
section
open Go Go.RowKit Go.OpenShut
theorem peek_any (w : World) (g en pa : Nat) (t : Tok) (ts : List Tok) (c : UInt8) (b : Bool) (h : RdS w g (t :: ts) en pa) (hb : isM t c = b) : Calls Tryz.prog 142 #[.pointer (some ⟨g, 0, none⟩), .string ⟨#[c]⟩] w fun e w' => e = .returned (.bool b) /\ Below w.heap.size w w' := by
 have HI : Hid (∀ W, Calls Tryz.prog 106 #[t.val, .string ⟨#[c]⟩] W fun e w' => e = .returned (.bool b) /\ Below W.heap.size W w') := fun W => is_any t c W b hb
 obtain ⟨p, cp, h1, h2, h3⟩ := h.len
 have hgl := h1.lt
 obtain ⟨N, hN⟩ : ∃ N, (t :: ts).length = N := ⟨_, rfl⟩
 rw [hN] at h1 h2 h3
 have hN1 : 1 <= N := by rw [<- hN]; simp
 obtain ⟨bb, o, rfl, hbb, hc0⟩ := rd_at' (k := 0) h2 (x := t) rfl
 rw [Nat.zero_mul, Nat.add_zero] at hc0
 obtain ⟨tk, tn, tS, tp⟩ := t
 have f0 : w.cell? ⟨bb, o, none⟩ = some (.int .i64 tk) := hc0 0 _ rfl
 have f1 : w.cell? ⟨bb, o + 1, none⟩ = some (.int .i64 tn) := hc0 1 _ rfl
 have f2 : w.cell? ⟨bb, o + 2, none⟩ = some (.string tS) := hc0 2 _ rfl
 have f3 : w.cell? ⟨bb, o + 3, none⟩ = some (.int .i64 tp) := hc0 3 _ rfl
 have c0 := h1.cell 0 rfl
 have e0 : decide (0 < N) = true := by simp; omega
 have e1 : (0 : Int) < (N : Int) := by omega
 have e2 : 0 < N := hN1
 clear h1 h2 hc0 hN h hb
 obtain ⟨m, hm⟩ : ∃ m : ByteArray, ⟨#[c]⟩ = m := ⟨_, rfl⟩
 rw [hm] at HI ⊢
 clear hm
 go_enter Tryz.func142, Tryz.ntmps142
 go_wp2_with (go_at_call 106; refine (HI.out _).mono ?_; rintro e w1 ⟨rfl, hb1⟩)
 go_ret
 exact ⟨rfl, hb1⟩
theorem RdS.cell2 {W : World} {g en pa : Nat} {ts : List Tok} (h : RdS W g ts en (pa + 1)) : W.cell? ⟨g, 2, none⟩ = some (.int .i64 ((pa : Int) + 1)) := by
 obtain ⟨p, n, c, h1, _⟩ := h.ex
 exact h1.cell 2 rfl
theorem lit_null : (⟨#[110, 117, 108, 108]⟩ : ByteArray).toList = [110, 117, 108, 108] := by rw [ByteArray.toList_eq]
theorem lit_true : (⟨#[116, 114, 117, 101]⟩ : ByteArray).toList = [116, 114, 117, 101] := by rw [ByteArray.toList_eq]
def ValR (w : World) (g : Nat) (v : JV) (ts : List Tok) (en pa : Nat) (e : Ending) (w' : World) : Prop := ∃ r : RV, e = .returned (RV.val r) /\ TreeS w' (Fresh w w') v r /\ RdS w' g ts en pa /\ w.grownBy w' (some g)
theorem VAt.setK {W : World} {g : Nat} {r : RV} (h : VAt W g r) (k : Int) : VAt (W.setCell ⟨g, 0, none⟩ (.int .i64 k)) g { r with k := k } := by
 unfold VAt at h ⊢
 simp [World.setCell, Array.getElem?_modify, h]
theorem VAt.setN {W : World} {g : Nat} {r : RV} (h : VAt W g r) (k : Int) : VAt (W.setCell ⟨g, 1, none⟩ (.int .i64 k)) g { r with n := k } := by
 unfold VAt at h ⊢
 simp [World.setCell, Array.getElem?_modify, h]
theorem VAt.setLs {W : World} {g : Nat} {r : RV} (h : VAt W g r) (p : Option Addr) (n c : Nat) : VAt (W.setCell ⟨g, 3, none⟩ (.slice p n c)) g { r with pl := p, nl := n, cl := c } := by
 unfold VAt at h ⊢
 simp [World.setCell, Array.getElem?_modify, h]
theorem VAt.setMs {W : World} {g : Nat} {r : RV} (h : VAt W g r) (p : Option Addr) (n c : Nat) : VAt (W.setCell ⟨g, 4, none⟩ (.slice p n c)) g { r with pm := p, nm := n, cm := c } := by
 unfold VAt at h ⊢
 simp [World.setCell, Array.getElem?_modify, h]
theorem VAt.keep {W W' : World} {g : Nat} {r : RV} (h : VAt W g r) (hk : W'.heap[g]? = W.heap[g]?) : VAt W' g r := hk.trans h
theorem RdrAt.set2' {W : World} {g en pa : Nat} {v : Value} (h : RdrAt W g v en pa) (x : Int) (k : Nat) (hx : x = k) : RdrAt (W.setCell ⟨g, 2, none⟩ (.int .i64 x)) g v en k := by subst hx; exact h.set2 k
def leafOf (t : Tok) : Option JV := if t.kind = 4 then some (.mk 4 0 t.s [] []) else if t.kind = 2 then if t.s = wNull then some (bareJ 1 0) else if t.s = wTrue then some (bareJ 2 1) else some (bareJ 2 0) else if t.kind = 3 then some (bareJ 3 t.n) else none
theorem leaf_cases {t : Tok} {v : JV} (h : leafOf t = some v) : (t.kind = 4 /\ v = .mk 4 0 t.s [] []) \/ (t.kind = 2 /\ t.s = wNull /\ v = .mk 1 0 ⟨#[]⟩ [] []) \/ (t.kind = 2 /\ t.s = wTrue /\ v = .mk 2 1 ⟨#[]⟩ [] []) \/ (t.kind = 2 /\ t.s ≠ wNull /\ t.s ≠ wTrue /\ v = .mk 2 0 ⟨#[]⟩ [] []) \/ (t.kind = 3 /\ v = .mk 3 t.n ⟨#[]⟩ [] []) := by
 unfold leafOf at h
 split at h
 ·cases h; exact .inl ⟨‹_›, rfl⟩
 ·split at h
  ·split at h
   ·cases h; exact .inr (.inl ⟨‹_›, ‹_›, rfl⟩)
   ·split at h
    ·cases h; exact .inr (.inr (.inl ⟨‹_›, ‹_›, rfl⟩))
    ·cases h; exact .inr (.inr (.inr (.inl ⟨‹_›, ‹_›, ‹_›, rfl⟩)))
  ·split at h
   ·cases h; exact .inr (.inr (.inr (.inr ⟨‹_›, rfl⟩)))
   ·cases h
theorem value_leaf (w : World) (g en pa deep : Nat) (t : Tok) (ts : List Tok) (v : JV) (h : RdS w g ts en pa) (hd : deep <= 16) (hp : pa < 8192) (hv : leafOf t = some v) :
 Calls Tryz.prog 78 #[.pointer (some ⟨g, 0, none⟩), t.val, .int .i64 deep] w (ValR w g v ts en (pa + 1)) := by
 have hgl := h.lt
 have hlc := leaf_cases hv
 clear hv
 have hg0 := ((World.grownBy_alloc w t.obj none).trans (World.grownBy_alloc _ (.cells #[.int .i64 0, .int .i64 0, .string ⟨#[]⟩, .slice none 0 0, .slice none 0 0] 25) none)).trans (World.grownBy_alloc _ (.cells #[.int .i64 0, .int .i64 0, .string ⟨#[]⟩, .slice none 0 0, .slice none 0 0] 25) none)
 have hT0 : TokAt (((w.alloc t.obj).alloc (.cells #[.int .i64 0, .int .i64 0, .string ⟨#[]⟩, .slice none 0 0, .slice none 0 0] 25)).alloc (.cells #[.int .i64 0, .int .i64 0, .string ⟨#[]⟩, .slice none 0 0, .slice none 0 0] 25)) w.heap.size t := heap_alloc_lt (by simp; omega) (heap_alloc_lt (by simp) (heap_alloc_at rfl))
 have hV1 : VAt (((w.alloc t.obj).alloc (.cells #[.int .i64 0, .int .i64 0, .string ⟨#[]⟩, .slice none 0 0, .slice none 0 0] 25)).alloc (.cells #[.int .i64 0, .int .i64 0, .string ⟨#[]⟩, .slice none 0 0, .slice none 0 0] 25)) (w.heap.size + 1) RV.zero := heap_alloc_lt (by simp) (heap_alloc_at (by simp))
 have hV2 : VAt (((w.alloc t.obj).alloc (.cells #[.int .i64 0, .int .i64 0, .string ⟨#[]⟩, .slice none 0 0, .slice none 0 0] 25)).alloc (.cells #[.int .i64 0, .int .i64 0, .string ⟨#[]⟩, .slice none 0 0, .slice none 0 0] 25)) (w.heap.size + 1 + 1) RV.zero := heap_alloc_at (by simp)
 have hs0 : (((w.alloc t.obj).alloc (.cells #[.int .i64 0, .int .i64 0, .string ⟨#[]⟩, .slice none 0 0, .slice none 0 0] 25)).alloc (.cells #[.int .i64 0, .int .i64 0, .string ⟨#[]⟩, .slice none 0 0, .slice none 0 0] 25)).heap.size = w.heap.size + 3 := by simp
 have hR0 := h.kept hg0 (fun k e => by cases e)
 obtain ⟨tk, tn, tS, tp⟩ := t
 dsimp only [Tok.val, Tok.obj] at *
 clear h
 have d1 : ¬ (16 < (deep : Int)) := by omega
 have d2 : ¬ (16 < deep) := by omega
 have d3 : (deep : Int) <= 16 := by omega
 go_enter Tryz.func78, Tryz.ntmps78
 go_upto_region 3 with fail
 obtain ⟨W0, hW0⟩ : ∃ W0, ((w.alloc (.cells #[.int .i64 tk, .int .i64 tn, .string tS, .int .i64 tp] 115)).alloc (.cells #[.int .i64 0, .int .i64 0, .string ⟨#[]⟩, .slice none 0 0, .slice none 0 0] 25)).alloc (.cells #[.int .i64 0, .int .i64 0, .string ⟨#[]⟩, .slice none 0 0, .slice none 0 0] 25) = W0 := ⟨_, rfl⟩
 rw [hW0] at hg0 hT0 hV1 hV2 hs0 hR0
 try rw [hW0]
 clear hW0
 have a0 := hT0.cell 0 rfl
 have a1 := hT0.cell 1 rfl
 have a2 := hT0.cell 2 rfl
 obtain ⟨v0, v1, v2, v3, v4⟩ := hV2.cells5
 have y0 := hV2.frozen 0
 have y1 := hV2.frozen 1
 have y2 := hV2.frozen 2
 have y3 := hV2.frozen 3
 have y4 := hV2.frozen 4
 dsimp only [RV.zero] at v0 v1 v2 v3 v4
 have HG0 := Lib.hid hg0
 have HV1 := Lib.hid hV1
 have HV2 := Lib.hid hV2
 have HR0 := Lib.hid hR0
 have HS0 := Lib.hid hs0
 clear hg0 hT0 hV1 hV2 hR0 hs0
 have KEY : ∀ (k n : Int) (s : ByteArray) (W1 : World), VAt W1 (w.heap.size + 1 + 1) ⟨k, n, s, none, 0, 0, none, 0, 0⟩ -> W0.grownBy W1 (some (w.heap.size + 1 + 1)) -> (VAt W1 (w.heap.size + 1) RV.zero /\ RdS W1 g ts en pa /\ w.grownBy W1 none) := by
  intro k n s W1 h1 h2
  have hs := HS0.out
  exact ⟨HV1.out.keep (h2.block _ HV1.out.lt (by simp)), HR0.out.kept h2 (fun k e => by cases e; omega), HG0.out.new_row h2 (by omega)⟩
 have HK := Lib.hid KEY
 clear KEY
 have FIN : ∀ (k n : Int) (s : ByteArray) (W1 : World), VAt W1 (w.heap.size + 1) RV.zero -> RdS W1 g ts en (pa + 1) -> w.grownBy W1 (some g) -> ValR w g (.mk k n s [] []) ts en (pa + 1) (.returned (RV.val ⟨k, n, s, none, 0, 0, none, 0, 0⟩)) (((((W1.setCell ⟨(w.heap.size + 1), 0, none⟩ (.int .i64 (⟨k, n, s, none, 0, 0, none, 0, 0⟩ : RV).k)).setCell ⟨(w.heap.size + 1), 1, none⟩ (.int .i64 (⟨k, n, s, none, 0, 0, none, 0, 0⟩ : RV).n)).setCell ⟨(w.heap.size + 1), 2, none⟩ (.string (⟨k, n, s, none, 0, 0, none, 0, 0⟩ : RV).s)).setCell ⟨(w.heap.size + 1), 3, none⟩ (.slice (⟨k, n, s, none, 0, 0, none, 0, 0⟩ : RV).pl (⟨k, n, s, none, 0, 0, none, 0, 0⟩ : RV).nl (⟨k, n, s, none, 0, 0, none, 0, 0⟩ : RV).cl)).setCell ⟨(w.heap.size + 1), 4, none⟩ (.slice (⟨k, n, s, none, 0, 0, none, 0, 0⟩ : RV).pm (⟨k, n, s, none, 0, 0, none, 0, 0⟩ : RV).nm (⟨k, n, s, none, 0, 0, none, 0, 0⟩ : RV).cm)) := by
  intro k n s W1 h1 h2 h3
  have hg := grownBy_set5 W1 (w.heap.size + 1) ⟨k, n, s, none, 0, 0, none, 0, 0⟩
  exact ⟨⟨k, n, s, none, 0, 0, none, 0, 0⟩, rfl, TreeS.leaf _ _ _ _ _, h2.kept hg (fun k e => by cases e; omega), h3.new_row hg (by omega)⟩
 have HF := Lib.hid FIN
 clear FIN
 rcases hlc with ⟨rfl, rfl⟩ | ⟨rfl, hw, rfl⟩ | ⟨rfl, hw, rfl⟩ | ⟨rfl, n1, n2, rfl⟩ | ⟨rfl, rfl⟩
 ·go_upto_region 17 with fail
  have hv : VAt (((((W0.setCell ⟨w.heap.size + 1 + 1, 0, none⟩ (.int .i64 4)).setCell ⟨w.heap.size + 1 + 1, 1, none⟩ (.int .i64 0)).setCell ⟨w.heap.size + 1 + 1, 2, none⟩ (.string tS)).setCell ⟨w.heap.size + 1 + 1, 3, none⟩ (.slice none 0 0)).setCell ⟨w.heap.size + 1 + 1, 4, none⟩ (.slice none 0 0)) (w.heap.size + 1 + 1) ⟨4, 0, tS, none, 0, 0, none, 0, 0⟩ := HV2.out.stored ⟨4, 0, tS, none, 0, 0, none, 0, 0⟩
  have hg : W0.grownBy (((((W0.setCell ⟨w.heap.size + 1 + 1, 0, none⟩ (.int .i64 4)).setCell ⟨w.heap.size + 1 + 1, 1, none⟩ (.int .i64 0)).setCell ⟨w.heap.size + 1 + 1, 2, none⟩ (.string tS)).setCell ⟨w.heap.size + 1 + 1, 3, none⟩ (.slice none 0 0)).setCell ⟨w.heap.size + 1 + 1, 4, none⟩ (.slice none 0 0)) (some (w.heap.size + 1 + 1)) := grownBy_set5 W0 _ ⟨4, 0, tS, none, 0, 0, none, 0, 0⟩
  obtain ⟨W1, hW1⟩ : ∃ W1, (((((W0.setCell ⟨w.heap.size + 1 + 1, 0, none⟩ (.int .i64 4)).setCell ⟨w.heap.size + 1 + 1, 1, none⟩ (.int .i64 0)).setCell ⟨w.heap.size + 1 + 1, 2, none⟩ (.string tS)).setCell ⟨w.heap.size + 1 + 1, 3, none⟩ (.slice none 0 0)).setCell ⟨w.heap.size + 1 + 1, 4, none⟩ (.slice none 0 0)) = W1 := ⟨_, rfl⟩
  rw [hW1] at hv hg
  try rw [hW1]
  clear hW1
  obtain ⟨h1, h2, h3⟩ := HK.out 4 0 tS W1 hv hg
  obtain ⟨p, nn, c, hr, hrd⟩ := h2.ex
  have c2 := hr.cell 2 rfl
  have z2 := hr.frozen 2
  have hgx := grownBy_set W1 g 2 (.int .i64 ((pa : Int) + 1))
  have hR3 : RdS (W1.setCell ⟨g, 2, none⟩ (.int .i64 ((pa : Int) + 1))) g ts en (pa + 1) := ⟨p, nn, c, hr.set2' _ _ (by omega), hrd.below (below_of hgx (by have := hr.lt; omega) (fun k e => by cases e; exact Nat.le_refl _)) (Nat.le_refl _)⟩
  have hV3 := h1.keep (hgx.block _ h1.lt (by simp; omega))
  have hV4 := hv.keep (hgx.block _ hv.lt (by simp; omega))
  have hG3 := h3.keep_some hgx
  go_upto_region 20 with fail
  have c3 := hR3.cell2
  obtain ⟨W2, hW2⟩ : ∃ W2, W1.setCell ⟨g, 2, none⟩ (.int .i64 ((pa : Int) + 1)) = W2 := ⟨_, rfl⟩
  rw [hW2] at hR3 hV3 hV4 hG3 c3
  try rw [hW2]
  clear hW2 c2 z2 v0 v1 v2 v3 v4 y0 y1 y2 y3 y4 a0 a1 a2 hgx hr hrd h1 h2 h3 hv hg
  obtain ⟨v0, v1, v2, v3, v4⟩ := hV4.cells5
  obtain ⟨z0, z1, z2, z3, z4⟩ := hV3.cells5
  have y0 := hV3.frozen 0
  have y1 := hV3.frozen 1
  have y2 := hV3.frozen 2
  have y3 := hV3.frozen 3
  have y4 := hV3.frozen 4
  dsimp only [RV.zero] at v0 v1 v2 v3 v4 z0 z1 z2 z3 z4
  have HR3 := Lib.hid hR3
  have HV3 := Lib.hid hV3
  have HG3 := Lib.hid hG3
  clear hR3 hV3 hV4 hG3
  go_wp2_with fail
  exact bodyPost_ret (v := RV.val ⟨4, 0, tS, none, 0, 0, none, 0, 0⟩) (by simp [results, Tryz.results78, go_sem, z0, z1, z2, z3, z4]) rfl (HF.out 4 0 tS W2 HV3.out HR3.out HG3.out)
 ·obtain rfl : tS = ⟨#[110, 117, 108, 108]⟩ := hw
  go_upto_region 17 with fail
  have hv : VAt (W0.setCell ⟨w.heap.size + 1 + 1, 0, none⟩ (.int .i64 1)) (w.heap.size + 1 + 1) ⟨1, 0, ⟨#[]⟩, none, 0, 0, none, 0, 0⟩ := HV2.out.setK 1
  have hg : W0.grownBy (W0.setCell ⟨w.heap.size + 1 + 1, 0, none⟩ (.int .i64 1)) (some (w.heap.size + 1 + 1)) := grownBy_set _ _ _ _
  obtain ⟨W1, hW1⟩ : ∃ W1, (W0.setCell ⟨w.heap.size + 1 + 1, 0, none⟩ (.int .i64 1)) = W1 := ⟨_, rfl⟩
  rw [hW1] at hv hg
  try rw [hW1]
  clear hW1
  obtain ⟨h1, h2, h3⟩ := HK.out 1 0 ⟨#[]⟩ W1 hv hg
  obtain ⟨p, nn, c, hr, hrd⟩ := h2.ex
  have c2 := hr.cell 2 rfl
  have z2 := hr.frozen 2
  have hgx := grownBy_set W1 g 2 (.int .i64 ((pa : Int) + 1))
  have hR3 : RdS (W1.setCell ⟨g, 2, none⟩ (.int .i64 ((pa : Int) + 1))) g ts en (pa + 1) := ⟨p, nn, c, hr.set2' _ _ (by omega), hrd.below (below_of hgx (by have := hr.lt; omega) (fun k e => by cases e; exact Nat.le_refl _)) (Nat.le_refl _)⟩
  have hV3 := h1.keep (hgx.block _ h1.lt (by simp; omega))
  have hV4 := hv.keep (hgx.block _ hv.lt (by simp; omega))
  have hG3 := h3.keep_some hgx
  go_upto_region 20 with fail
  have c3 := hR3.cell2
  obtain ⟨W2, hW2⟩ : ∃ W2, W1.setCell ⟨g, 2, none⟩ (.int .i64 ((pa : Int) + 1)) = W2 := ⟨_, rfl⟩
  rw [hW2] at hR3 hV3 hV4 hG3 c3
  try rw [hW2]
  clear hW2 c2 z2 v0 v1 v2 v3 v4 y0 y1 y2 y3 y4 a0 a1 a2 hgx hr hrd h1 h2 h3 hv hg
  obtain ⟨v0, v1, v2, v3, v4⟩ := hV4.cells5
  obtain ⟨z0, z1, z2, z3, z4⟩ := hV3.cells5
  have y0 := hV3.frozen 0
  have y1 := hV3.frozen 1
  have y2 := hV3.frozen 2
  have y3 := hV3.frozen 3
  have y4 := hV3.frozen 4
  dsimp only [RV.zero] at v0 v1 v2 v3 v4 z0 z1 z2 z3 z4
  have HR3 := Lib.hid hR3
  have HV3 := Lib.hid hV3
  have HG3 := Lib.hid hG3
  clear hR3 hV3 hV4 hG3
  go_wp2_with fail
  exact bodyPost_ret (v := RV.val ⟨1, 0, ⟨#[]⟩, none, 0, 0, none, 0, 0⟩) (by simp [results, Tryz.results78, go_sem, z0, z1, z2, z3, z4]) rfl (HF.out 1 0 ⟨#[]⟩ W2 HV3.out HR3.out HG3.out)
 ·obtain rfl : tS = ⟨#[116, 114, 117, 101]⟩ := hw
  go_upto_region 17 with fail
  have hv : VAt ((W0.setCell ⟨w.heap.size + 1 + 1, 0, none⟩ (.int .i64 2)).setCell ⟨w.heap.size + 1 + 1, 1, none⟩ (.int .i64 1)) (w.heap.size + 1 + 1) ⟨2, 1, ⟨#[]⟩, none, 0, 0, none, 0, 0⟩ := (HV2.out.setK 2).setN 1
  have hg : W0.grownBy ((W0.setCell ⟨w.heap.size + 1 + 1, 0, none⟩ (.int .i64 2)).setCell ⟨w.heap.size + 1 + 1, 1, none⟩ (.int .i64 1)) (some (w.heap.size + 1 + 1)) := (grownBy_set _ _ _ _).trans (grownBy_set _ _ _ _)
  obtain ⟨W1, hW1⟩ : ∃ W1, ((W0.setCell ⟨w.heap.size + 1 + 1, 0, none⟩ (.int .i64 2)).setCell ⟨w.heap.size + 1 + 1, 1, none⟩ (.int .i64 1)) = W1 := ⟨_, rfl⟩
  rw [hW1] at hv hg
  try rw [hW1]
  clear hW1
  obtain ⟨h1, h2, h3⟩ := HK.out 2 1 ⟨#[]⟩ W1 hv hg
  obtain ⟨p, nn, c, hr, hrd⟩ := h2.ex
  have c2 := hr.cell 2 rfl
  have z2 := hr.frozen 2
  have hgx := grownBy_set W1 g 2 (.int .i64 ((pa : Int) + 1))
  have hR3 : RdS (W1.setCell ⟨g, 2, none⟩ (.int .i64 ((pa : Int) + 1))) g ts en (pa + 1) := ⟨p, nn, c, hr.set2' _ _ (by omega), hrd.below (below_of hgx (by have := hr.lt; omega) (fun k e => by cases e; exact Nat.le_refl _)) (Nat.le_refl _)⟩
  have hV3 := h1.keep (hgx.block _ h1.lt (by simp; omega))
  have hV4 := hv.keep (hgx.block _ hv.lt (by simp; omega))
  have hG3 := h3.keep_some hgx
  go_upto_region 20 with fail
  have c3 := hR3.cell2
  obtain ⟨W2, hW2⟩ : ∃ W2, W1.setCell ⟨g, 2, none⟩ (.int .i64 ((pa : Int) + 1)) = W2 := ⟨_, rfl⟩
  rw [hW2] at hR3 hV3 hV4 hG3 c3
  try rw [hW2]
  clear hW2 c2 z2 v0 v1 v2 v3 v4 y0 y1 y2 y3 y4 a0 a1 a2 hgx hr hrd h1 h2 h3 hv hg
  obtain ⟨v0, v1, v2, v3, v4⟩ := hV4.cells5
  obtain ⟨z0, z1, z2, z3, z4⟩ := hV3.cells5
  have y0 := hV3.frozen 0
  have y1 := hV3.frozen 1
  have y2 := hV3.frozen 2
  have y3 := hV3.frozen 3
  have y4 := hV3.frozen 4
  dsimp only [RV.zero] at v0 v1 v2 v3 v4 z0 z1 z2 z3 z4
  have HR3 := Lib.hid hR3
  have HV3 := Lib.hid hV3
  have HG3 := Lib.hid hG3
  clear hR3 hV3 hV4 hG3
  go_wp2_with fail
  exact bodyPost_ret (v := RV.val ⟨2, 1, ⟨#[]⟩, none, 0, 0, none, 0, 0⟩) (by simp [results, Tryz.results78, go_sem, z0, z1, z2, z3, z4]) rfl (HF.out 2 1 ⟨#[]⟩ W2 HV3.out HR3.out HG3.out)
 ·have q1 : (tS.toList == [110, 117, 108, 108]) = false := by rw [<- lit_null, str_beq]; exact decide_eq_false n1
  have q2 : (tS.toList == [116, 114, 117, 101]) = false := by rw [<- lit_true, str_beq]; exact decide_eq_false n2
  clear n1 n2
  go_upto_region 17 with fail
  have hv : VAt (W0.setCell ⟨w.heap.size + 1 + 1, 0, none⟩ (.int .i64 2)) (w.heap.size + 1 + 1) ⟨2, 0, ⟨#[]⟩, none, 0, 0, none, 0, 0⟩ := HV2.out.setK 2
  have hg : W0.grownBy (W0.setCell ⟨w.heap.size + 1 + 1, 0, none⟩ (.int .i64 2)) (some (w.heap.size + 1 + 1)) := grownBy_set _ _ _ _
  obtain ⟨W1, hW1⟩ : ∃ W1, (W0.setCell ⟨w.heap.size + 1 + 1, 0, none⟩ (.int .i64 2)) = W1 := ⟨_, rfl⟩
  rw [hW1] at hv hg
  try rw [hW1]
  clear hW1
  obtain ⟨h1, h2, h3⟩ := HK.out 2 0 ⟨#[]⟩ W1 hv hg
  obtain ⟨p, nn, c, hr, hrd⟩ := h2.ex
  have c2 := hr.cell 2 rfl
  have z2 := hr.frozen 2
  have hgx := grownBy_set W1 g 2 (.int .i64 ((pa : Int) + 1))
  have hR3 : RdS (W1.setCell ⟨g, 2, none⟩ (.int .i64 ((pa : Int) + 1))) g ts en (pa + 1) := ⟨p, nn, c, hr.set2' _ _ (by omega), hrd.below (below_of hgx (by have := hr.lt; omega) (fun k e => by cases e; exact Nat.le_refl _)) (Nat.le_refl _)⟩
  have hV3 := h1.keep (hgx.block _ h1.lt (by simp; omega))
  have hV4 := hv.keep (hgx.block _ hv.lt (by simp; omega))
  have hG3 := h3.keep_some hgx
  go_upto_region 20 with fail
  have c3 := hR3.cell2
  obtain ⟨W2, hW2⟩ : ∃ W2, W1.setCell ⟨g, 2, none⟩ (.int .i64 ((pa : Int) + 1)) = W2 := ⟨_, rfl⟩
  rw [hW2] at hR3 hV3 hV4 hG3 c3
  try rw [hW2]
  clear hW2 c2 z2 v0 v1 v2 v3 v4 y0 y1 y2 y3 y4 a0 a1 a2 hgx hr hrd h1 h2 h3 hv hg
  obtain ⟨v0, v1, v2, v3, v4⟩ := hV4.cells5
  obtain ⟨z0, z1, z2, z3, z4⟩ := hV3.cells5
  have y0 := hV3.frozen 0
  have y1 := hV3.frozen 1
  have y2 := hV3.frozen 2
  have y3 := hV3.frozen 3
  have y4 := hV3.frozen 4
  dsimp only [RV.zero] at v0 v1 v2 v3 v4 z0 z1 z2 z3 z4
  have HR3 := Lib.hid hR3
  have HV3 := Lib.hid hV3
  have HG3 := Lib.hid hG3
  clear hR3 hV3 hV4 hG3
  go_wp2_with fail
  exact bodyPost_ret (v := RV.val ⟨2, 0, ⟨#[]⟩, none, 0, 0, none, 0, 0⟩) (by simp [results, Tryz.results78, go_sem, z0, z1, z2, z3, z4]) rfl (HF.out 2 0 ⟨#[]⟩ W2 HV3.out HR3.out HG3.out)
 ·go_upto_region 17 with fail
  have hv : VAt (((((W0.setCell ⟨w.heap.size + 1 + 1, 0, none⟩ (.int .i64 3)).setCell ⟨w.heap.size + 1 + 1, 1, none⟩ (.int .i64 tn)).setCell ⟨w.heap.size + 1 + 1, 2, none⟩ (.string ⟨#[]⟩)).setCell ⟨w.heap.size + 1 + 1, 3, none⟩ (.slice none 0 0)).setCell ⟨w.heap.size + 1 + 1, 4, none⟩ (.slice none 0 0)) (w.heap.size + 1 + 1) ⟨3, tn, ⟨#[]⟩, none, 0, 0, none, 0, 0⟩ := HV2.out.stored ⟨3, tn, ⟨#[]⟩, none, 0, 0, none, 0, 0⟩
  have hg : W0.grownBy (((((W0.setCell ⟨w.heap.size + 1 + 1, 0, none⟩ (.int .i64 3)).setCell ⟨w.heap.size + 1 + 1, 1, none⟩ (.int .i64 tn)).setCell ⟨w.heap.size + 1 + 1, 2, none⟩ (.string ⟨#[]⟩)).setCell ⟨w.heap.size + 1 + 1, 3, none⟩ (.slice none 0 0)).setCell ⟨w.heap.size + 1 + 1, 4, none⟩ (.slice none 0 0)) (some (w.heap.size + 1 + 1)) := grownBy_set5 W0 _ ⟨3, tn, ⟨#[]⟩, none, 0, 0, none, 0, 0⟩
  obtain ⟨W1, hW1⟩ : ∃ W1, (((((W0.setCell ⟨w.heap.size + 1 + 1, 0, none⟩ (.int .i64 3)).setCell ⟨w.heap.size + 1 + 1, 1, none⟩ (.int .i64 tn)).setCell ⟨w.heap.size + 1 + 1, 2, none⟩ (.string ⟨#[]⟩)).setCell ⟨w.heap.size + 1 + 1, 3, none⟩ (.slice none 0 0)).setCell ⟨w.heap.size + 1 + 1, 4, none⟩ (.slice none 0 0)) = W1 := ⟨_, rfl⟩
  rw [hW1] at hv hg
  try rw [hW1]
  clear hW1
  obtain ⟨h1, h2, h3⟩ := HK.out 3 tn ⟨#[]⟩ W1 hv hg
  obtain ⟨p, nn, c, hr, hrd⟩ := h2.ex
  have c2 := hr.cell 2 rfl
  have z2 := hr.frozen 2
  have hgx := grownBy_set W1 g 2 (.int .i64 ((pa : Int) + 1))
  have hR3 : RdS (W1.setCell ⟨g, 2, none⟩ (.int .i64 ((pa : Int) + 1))) g ts en (pa + 1) := ⟨p, nn, c, hr.set2' _ _ (by omega), hrd.below (below_of hgx (by have := hr.lt; omega) (fun k e => by cases e; exact Nat.le_refl _)) (Nat.le_refl _)⟩
  have hV3 := h1.keep (hgx.block _ h1.lt (by simp; omega))
  have hV4 := hv.keep (hgx.block _ hv.lt (by simp; omega))
  have hG3 := h3.keep_some hgx
  go_upto_region 20 with fail
  have c3 := hR3.cell2
  obtain ⟨W2, hW2⟩ : ∃ W2, W1.setCell ⟨g, 2, none⟩ (.int .i64 ((pa : Int) + 1)) = W2 := ⟨_, rfl⟩
  rw [hW2] at hR3 hV3 hV4 hG3 c3
  try rw [hW2]
  clear hW2 c2 z2 v0 v1 v2 v3 v4 y0 y1 y2 y3 y4 a0 a1 a2 hgx hr hrd h1 h2 h3 hv hg
  obtain ⟨v0, v1, v2, v3, v4⟩ := hV4.cells5
  obtain ⟨z0, z1, z2, z3, z4⟩ := hV3.cells5
  have y0 := hV3.frozen 0
  have y1 := hV3.frozen 1
  have y2 := hV3.frozen 2
  have y3 := hV3.frozen 3
  have y4 := hV3.frozen 4
  dsimp only [RV.zero] at v0 v1 v2 v3 v4 z0 z1 z2 z3 z4
  have HR3 := Lib.hid hR3
  have HV3 := Lib.hid hV3
  have HG3 := Lib.hid hG3
  clear hR3 hV3 hV4 hG3
  go_wp2_with fail
  exact bodyPost_ret (v := RV.val ⟨3, tn, ⟨#[]⟩, none, 0, 0, none, 0, 0⟩) (by simp [results, Tryz.results78, go_sem, z0, z1, z2, z3, z4]) rfl (HF.out 3 tn ⟨#[]⟩ W2 HV3.out HR3.out HG3.out)
theorem par_bd : ∀ (f : Nat), (∀ (d p : Nat) (ts : List Tok) (v : JV) (q : Nat) (r : List Tok), parV f d p ts = some (v, q, r) -> p < q /\ q <= 8192 /\ d <= 16) /\
 (∀ (d p : Nat) (ts : List Tok) (l : List JV) (q : Nat) (r : List Tok), parL f d p ts = some (l, q, r) -> p < q /\ q <= 8192) /\
 (∀ (d p : Nat) (k : List ByteArray) (ts : List Tok) (l : List (ByteArray × JV)) (q : Nat) (r : List Tok), parM f d p k ts = some (l, q, r) -> p < q /\ q <= 8192)
 | 0 => ⟨fun d p ts v q r h => by cases ts <;> simp [parV] at h, fun d p ts l q r h => by simp [parL] at h, fun d p k ts l q r h => by simp [parM] at h⟩
 | f + 1 => by
   have ih := par_bd f
   refine ⟨fun d p ts v q r h => ?_, fun d p ts l q r h => ?_, fun d p k ts l q r h => ?_⟩
   ·cases ts with
    | nil => simp [parV] at h
    | cons t ts =>
      unfold parV at h
      split at h
      ·cases h
      ·rename_i hc
       have hc2 : d <= 16 /\ p < 8192 := by omega
       split at h
       ·cases h; omega
       ·split at h
        ·split at h
         ·cases h; omega
         ·split at h <;> (cases h; omega)
        ·split at h
         ·cases ts with
          | nil => cases h
          | cons c r' =>
            dsimp only at h
            split at h
            ·cases h; omega
            ·obtain ⟨x, hx, he⟩ := Option.map_eq_some_iff.1 h
             cases he
             have := ih.2.1 _ _ _ _ _ _ (show parL f d (p + 1) (c :: r') = some (x.1, x.2.1, x.2.2) from hx)
             omega
         ·split at h
          ·cases ts with
           | nil => cases h
           | cons c r' =>
             dsimp only at h
             split at h
             ·cases h; omega
             ·obtain ⟨x, hx, he⟩ := Option.map_eq_some_iff.1 h
              cases he
              have := ih.2.2 _ _ _ _ _ _ _ (show parM f d (p + 1) [] (c :: r') = some (x.1, x.2.1, x.2.2) from hx)
              omega
          ·split at h
           ·cases h; omega
           ·cases h
   ·unfold parL at h
    split at h
    ·rename_i v p' c r' hv
     have h1 := ih.1 _ _ _ _ _ _ hv
     split at h
     ·cases h; omega
     ·split at h
      ·obtain ⟨x, hx, he⟩ := Option.map_eq_some_iff.1 h
       cases he
       have := ih.2.1 _ _ _ _ _ _ (show parL f d p' r' = some (x.1, x.2.1, x.2.2) from hx)
       omega
      ·cases h
    ·cases h
   ·match ts, h with
    | [], h => simp [parM] at h
    | [_], h => simp [parM] at h
    | n :: col :: ts, h =>
      unfold parM at h
      split at h
      ·split at h
       ·rename_i v p' c r' hv
        have h1 := ih.1 _ _ _ _ _ _ hv
        split at h
        ·cases h; omega
        ·split at h
         ·obtain ⟨x, hx, he⟩ := Option.map_eq_some_iff.1 h
          cases he
          have := ih.2.2 _ _ _ _ _ _ _ (show parM f d p' (n.s :: k) r' = some (x.1, x.2.1, x.2.2) from hx)
          omega
         ·cases h
       ·cases h
      ·cases h
theorem parL_step {f d p : Nat} {ts : List Tok} {l : List JV} {q : Nat} {r : List Tok} (h : parL f d p ts = some (l, q, r)) :
 ∃ f' t ts' v p' c r', f = f' + 1 /\ ts = t :: ts' /\ parV f' (d + 1) p (t :: ts') = some (v, p', c :: r') /\ p < p' /\ p' <= 8192 /\ ((isM c 93 = true /\ l = [v] /\ q = p' /\ r = r') \/ (isM c 93 = false /\ isM c 44 = true /\ ∃ l', l = v :: l' /\ parL f' d p' r' = some (l', q, r))) := by
 cases f with
 | zero => simp [parL] at h
 | succ f =>
   unfold parL at h
   split at h
   ·rename_i v p' c r' hv
    have hb := (par_bd f).1 _ _ _ _ _ _ hv
    cases ts with
    | nil => cases f <;> simp [parV] at hv
    | cons t ts =>
      refine ⟨f, t, ts, v, p', c, r', rfl, rfl, hv, hb.1, hb.2.1, ?_⟩
      split at h
      ·cases h; exact .inl ⟨‹_›, rfl, rfl, rfl⟩
      ·rename_i h9
       split at h
       ·rename_i h4
        obtain ⟨x, hx, he⟩ := Option.map_eq_some_iff.1 h
        cases he
        exact .inr ⟨by simpa using h9, h4, x.1, rfl, hx⟩
       ·cases h
   ·cases h
def PV (N : Nat) : Prop := ∀ f, f <= N -> ∀ (d p : Nat) (t : Tok) (ts : List Tok) (v : JV) (q : Nat) (r : List Tok), parV f d p (t :: ts) = some (v, q, r) -> ∀ (w : World) (g en : Nat), RdS w g ts en p ->
    Calls Tryz.prog 78 #[.pointer (some ⟨g, 0, none⟩), t.val, .int .i64 d] w (ValR w g v r en q)
def LstR (w : World) (g : Nat) (l : List JV) (ts : List Tok) (en pa : Nat) (e : Ending) (w' : World) : Prop := ∃ p n c, e = .returned (.slice p n c) /\ GrL w' w.heap.size (.slice p n c) l /\ RdS w' g ts en pa /\ w.grownBy w' (some g)
theorem _root_.Go.RowKit.Below.gbr {w w' : World} (h : Below w.heap.size w w') (row : Option Nat) : w.grownBy w' row := ⟨h.os, h.tape, h.output, h.size, fun k hk _ => h.block k hk⟩
theorem _root_.Go.World.grownBy.own_row {w w1 w2 : World} {row r2 : Option Nat} (h : w.grownBy w1 row) (h2 : w1.grownBy w2 r2) (hx : ∀ k, r2 = some k -> w.heap.size <= k) : w.grownBy w2 row :=
 ⟨h2.os.trans h.os, h2.tape.trans h.tape, h2.output.trans h.output, Nat.le_trans h.size h2.size, fun k hk hne => (h2.block k (Nat.lt_of_lt_of_le hk h.size) (fun e => by have := hx k e.symm; omega)).trans (h.block k hk hne)⟩
theorem GrL.other {w w' : World} {base g : Nat} {v : Value} {l : List JV} (h : GrL w base v l) (hg : w.grownBy w' (some g)) (hb : g < base) : GrL w' base v l :=
 h.out (fun k h1 h2 => hg.block k h2 (fun e => by cases e; omega)) hg.size
theorem GrL.own {w : World} {base : Nat} {v : Value} {l : List JV} (h : GrL w base v l) : ∃ p n c, v = .slice p n c /\ n = l.length /\ ∀ k, v.ownBlock = some k -> base <= k /\ k < w.heap.size := by
 obtain ⟨rs, h1, h2, _⟩ := h.ex
 obtain ⟨p, c, hv, _, _⟩ := h1.len
 exact ⟨p, _, c, hv, by rw [h2], h1.lt⟩
theorem list_none (w : World) (g en pa deep : Nat) (c : Tok) (r : List Tok) (h : RdS w g (c :: r) en pa) (hc : isM c 93 = true) : Calls Tryz.prog 107 #[.pointer (some ⟨g, 0, none⟩), .int .i64 deep] w (LstR w g [] r en pa) := by
 have HP := Lib.hid (peek_any w g en pa c r 93 true h hc)
 have HN : Hid (∀ W, Below w.heap.size w W -> Calls Tryz.prog 79 #[.pointer (some ⟨g, 0, none⟩)] W (NxtRet W g c r en pa)) := fun W hb => next_any W g en pa c r (h.kept (hb.gbr none) (fun k e => by cases e))
 clear h hc
 go_enter Tryz.func107, Tryz.ntmps107
 go_wp2_with (first
  | (go_at_call 142; refine HP.out.mono ?_; rintro e w1 ⟨rfl, hb1⟩)
  | (go_at_call 79; refine (HN.out _ hb1).mono ?_; rintro e w2 ⟨rfl, hr2, hg2⟩))
 go_ret
 exact ⟨none, 0, 0, rfl, GrL.nil _ _, hr2, ((hb1.gbr none).keep_some hg2)⟩
theorem list_some (N : Nat) (hV : PV N) (w : World) (g en pa deep f0 : Nat) (c : Tok) (r : List Tok) (l : List JV) (q : Nat) (rest : List Tok) (h : RdS w g (c :: r) en pa) (hd : deep <= 16) (hc : isM c 93 = false) (hf : f0 <= N) (hl : parL f0 deep pa (c :: r) = some (l, q, rest)) :
 Calls Tryz.prog 107 #[.pointer (some ⟨g, 0, none⟩), .int .i64 deep] w (LstR w g l rest en q) := by
 have hgl := h.lt
 have HP := Lib.hid (peek_any w g en pa c r 93 false h hc)
 have HL := Lib.hid hl
 have H0 := Lib.hid h
 have hd0 : (0 : Int) <= (deep : Int) := Int.natCast_nonneg _
 have hd1 : (deep : Int) <= 16 := by omega
 have HV : Hid (∀ f, f <= N -> ∀ (p : Nat) (t : Tok) (ts : List Tok) (v : JV) (q : Nat) (r : List Tok), parV f (deep + 1) p (t :: ts) = some (v, q, r) -> ∀ (w : World), RdS w g ts en p ->
  Calls Tryz.prog 78 #[.pointer (some ⟨g, 0, none⟩), t.val, .int .i64 ((deep : Int) + 1)] w (ValR w g v r en q)) := fun f hf p t ts v q r hp w hr => hV f hf (deep + 1) p t ts v q r hp w g en hr
 clear h hc hl hd hV
 go_enter Tryz.func107, Tryz.ntmps107
 go_wp2_with (go_at_call 142; refine HP.out.mono ?_; rintro e w1 ⟨rfl, hb1⟩)
 have HB1 := Lib.hid hb1
 clear hb1
 go_loopg [5] f0 (fun gk o wr => gk <= N /\ ∃ ts1 pa1 l1 l2, Hid (parL gk deep pa1 ts1 = some (l2, q, rest) /\ l = l1 ++ l2 /\ RdS wr g ts1 en pa1 /\ GrL wr w.heap.size o l1 /\ l1.length <= pa1 /\ w.grownBy wr (some g)))
 case atStart => exact ⟨hf, c :: r, pa, [], l, HL.out, rfl, H0.out.kept (HB1.out.gbr none) (fun k e => by cases e), GrL.nil _ _, Nat.zero_le _, HB1.out.gbr _⟩
 case round =>
  obtain ⟨hgk, ts1, pa1, l1, l2, hH⟩ := hrel
  obtain ⟨hpl, hll, hrs, hgr, hlen, hgw⟩ := hH.out
  clear hH
  obtain ⟨f', t, ts', v, p', c1, r', rfl, rfl, hpv, hp1, hp2, hcase⟩ := parL_step hpl
  obtain ⟨po, no, co, rfl, hno, hlt⟩ := hgr.own
  have HNX := Lib.hid (next_any wr g en pa1 t ts' hrs)
  have HVA : Hid (∀ W, RdS W g ts' en pa1 -> Calls Tryz.prog 78 #[.pointer (some ⟨g, 0, none⟩), t.val, .int .i64 ((deep : Int) + 1)] W (ValR W g v (c1 :: r') en p')) := fun W hr => HV.out f' (by omega) pa1 t ts' v p' (c1 :: r') hpv W hr
  have HLEN : Hid (l1.length < p' /\ p' <= 8192) := ⟨by omega, hp2⟩
  have HCASE := Lib.hid hcase
  have HLL := Lib.hid hll
  have HGR := Lib.hid hgr
  have HGW := Lib.hid hgw
  have HRS := Lib.hid hrs
  have HNO := Lib.hid hno
  clear hpl hpv hcase hll hgr hgw hno hlt hlen hp1 hp2 hrs
  have HN2 : Hid (∀ W, RdS W g (c1 :: r') en p' -> Calls Tryz.prog 79 #[.pointer (some ⟨g, 0, none⟩)] W (NxtRet W g c1 r' en p')) := fun W hr => next_any W g en p' c1 r' hr
  obtain ⟨tk, tn, tS, tp⟩ := t
  obtain ⟨ck, cn, cS, cp⟩ := c1
  dsimp only [Tok.val, NxtRet] at *
  go_upto_region 6 with (first
   | (go_at_call 79; refine HNX.out.mono ?_; rintro e w2 ⟨rfl, hr2, hg2⟩)
   | (go_at_call 78; refine (HVA.out _ hr2).mono ?_; rintro e w3 ⟨rv, rfl, ht3, hr3, hg3⟩; (have hgr3 := (HGR.out.other hg2 hgl).other hg3 hgl); obtain ⟨rs, hO3, hl3, hT3⟩ := hgr3.ex; obtain ⟨vk, vn, vs, vpl, vnl, vcl, vpm, vnm, vcm⟩ := rv; (have HL3 := Lib.hid hl3); (have HT3 := Lib.hid hT3); (have HS3 : Hid (w.heap.size <= w2.heap.size /\ w2.heap.size <= w3.heap.size /\ wr.heap.size <= w2.heap.size) := ⟨Nat.le_trans HGW.out.size hg2.size, hg3.size, hg2.size⟩); clear hl3 hT3 hgr3)
   | (at_builtin; refine wpList_append_rd slV codecV (w3.alloc (.cells #[.int .i64 vk, .int .i64 vn, .string vs, .slice vpl vnl vcl, .slice vpm vnm vcm] 25)) rfl (.tmp 11) (.tmp 18) rfl (v := .slice po no co) rfl rfl (hO3.alloc _) (Rd.one (B := w3.heap.size + 1) (x := (⟨vk, vn, vs, vpl, vnl, vcl, vpm, vnm, vcm⟩ : RV)) codecV (heap_alloc_new _ _) rfl (by omega)) (by have := HLEN.out; have := HL3.out; simp only [List.length_singleton]; unfold maxLen; omega) (by have := HLEN.out; have := HL3.out; simp only [List.length_singleton]; omega) (by have := HS3.out; simp; omega) ?_; intro v4 w4 ho4 hg4 hat4))
  have hlt := HGR.out.own
  have hgr4 : GrL w4 w.heap.size v4 (l1 ++ [v]) := by
   obtain ⟨_, _, _, hv, _, hlt⟩ := hlt
   cases hv
   refine GrL.snoc hO3 HL3.out HT3.out (ht3.mono (fun k hk => ⟨by have := hk.1; have := HS3.out; omega, hk.2, fun e => by have := (hlt k e).2; have := hk.1; have := HS3.out; omega⟩)) ho4 ((World.grownBy_alloc _ _ _).trans hg4) (fun k e => ?_)
   rcases hat4 with h | h
   ·exact .inl (h ▸ e)
   ·rw [h] at e; cases e; exact .inr (by simp)
  have hrow : ∀ k, (Value.slice po no co).ownBlock = some k -> w.heap.size <= k := fun k e => by
   obtain ⟨_, _, _, hv, _, hlt⟩ := hlt
   cases hv
   exact (hlt k e).1
  have hr4 := (hr3.kept (World.grownBy_alloc w3 (.cells #[.int .i64 vk, .int .i64 vn, .string vs, .slice vpl vnl vcl, .slice vpm vnm vcm] 25) none) (fun k e => by cases e)).kept hg4 (fun k e => by have := hrow k e; omega)
  have hg4' := ((HGW.out.trans (hg2.trans hg3)).own_row (World.grownBy_alloc w3 (.cells #[.int .i64 vk, .int .i64 vn, .string vs, .slice vpl vnl vcl, .slice vpm vnm vcm] 25) none) (fun k e => by cases e)).own_row hg4 hrow
  obtain ⟨p4, n4, c4, rfl, hn4, hlt4⟩ := hgr4.own
  have HGR4 := Lib.hid hgr4
  have HR4 := Lib.hid hr4
  have HG4 := Lib.hid hg4'
  clear hgr4 hr4 hg4' hn4 hlt4 hlt hrow hg4 ho4 hat4 hO3 HT3 HL3 ht3 hr3 hg3 hr2 hg2 HNX HVA
  go_upto_region 7 with (go_at_call 79; refine (HN2.out _ HR4.out).mono ?_; rintro e w5 ⟨rfl, hr5, hg5⟩)
  have hT5 : TokAt (w5.alloc (.cells #[.int .i64 ck, .int .i64 cn, .string cS, .int .i64 cp] 115)) w5.heap.size ⟨ck, cn, cS, cp⟩ := heap_alloc_at rfl
  have hr6 := hr5.kept (World.grownBy_alloc w5 (.cells #[.int .i64 ck, .int .i64 cn, .string cS, .int .i64 cp] 115) none) (fun k e => by cases e)
  have hgr6 := (HGR4.out.other hg5 hgl).out (w' := w5.alloc (.cells #[.int .i64 ck, .int .i64 cn, .string cS, .int .i64 cp] 115)) (fun k h1 h2 => Below.heap_alloc _ _ k h2) (by simp)
  have hg6 := (HG4.out.trans hg5).own_row (World.grownBy_alloc w5 (.cells #[.int .i64 ck, .int .i64 cn, .string cS, .int .i64 cp] 115) none) (fun k e => by cases e)
  obtain ⟨b6, hb6⟩ : ∃ b, w5.heap.size = b := ⟨_, rfl⟩
  obtain ⟨w6, hw6⟩ : ∃ W, w5.alloc (.cells #[.int .i64 ck, .int .i64 cn, .string cS, .int .i64 cp] 115) = W := ⟨_, rfl⟩
  rw [hw6, hb6] at hT5
  rw [hw6] at hr6 hgr6 hg6
  try rw [hw6]
  try rw [hb6]
  clear hw6 hb6 hr5 hg5 HR4 HGR4 HG4
  have a0 := hT5.cell 0 rfl
  have a1 := hT5.cell 1 rfl
  have a2 := hT5.cell 2 rfl
  have a3 := hT5.cell 3 rfl
  have HR6 := Lib.hid hr6
  have HGR6 := Lib.hid hgr6
  have HG6 := Lib.hid hg6
  have HT6 := Lib.hid hT5
  clear hr6 hgr6 hg6 hT5
  have hcase := HCASE.out
  rcases hcase with ⟨hc1, hc2, hc3, hc4⟩ | ⟨hc1, hc2, l', hc3, hc4⟩
  ·have HI : Hid (∀ W, Calls Tryz.prog 106 #[.agg #[.int .i64 ck, .int .i64 cn, .string cS, .int .i64 cp], .string ⟨#[93]⟩] W fun e w' => e = .returned (.bool true) /\ Below W.heap.size W w') := fun W => is_any ⟨ck, cn, cS, cp⟩ 93 W true hc1
   have HC : Hid (l = l1 ++ [v] /\ q = p' /\ rest = r') := ⟨by rw [HLL.out, hc2], hc3, hc4⟩
   clear hc1 hc2 hc3 hc4 HCASE
   go_wp2_with (go_at_call 106; refine (HI.out _).mono ?_; rintro e w7 ⟨rfl, hb7⟩)
   go_ret
   obtain ⟨e1, e2, e3⟩ := HC.out
   rw [e1, e2, e3]
   exact ⟨p4, n4, c4, rfl, HGR6.out.out (fun k _ h2 => hb7.block k h2) hb7.size, HR6.out.kept (hb7.gbr none) (fun k e => by cases e), HG6.out.own_row (hb7.gbr none) (fun k e => by cases e)⟩
  ·have HI : Hid (∀ W, Calls Tryz.prog 106 #[.agg #[.int .i64 ck, .int .i64 cn, .string cS, .int .i64 cp], .string ⟨#[93]⟩] W fun e w' => e = .returned (.bool false) /\ Below W.heap.size W w') := fun W => is_any ⟨ck, cn, cS, cp⟩ 93 W false hc1
   have HJ : Hid (∀ W, Calls Tryz.prog 106 #[.agg #[.int .i64 ck, .int .i64 cn, .string cS, .int .i64 cp], .string ⟨#[44]⟩] W fun e w' => e = .returned (.bool true) /\ Below W.heap.size W w') := fun W => is_any ⟨ck, cn, cS, cp⟩ 44 W true hc2
   have HC : Hid (l = (l1 ++ [v]) ++ l' /\ parL f' deep p' r' = some (l', q, rest)) := ⟨by rw [HLL.out, hc3]; simp, hc4⟩
   clear hc1 hc2 hc3 hc4 HCASE
   go_upto_region 9 with (go_at_call 106; refine (HI.out _).mono ?_; rintro e w7 ⟨rfl, hb7⟩)
   have hT7 := HT6.out.keep (hb7.block _ HT6.out.lt)
   clear a0 a1 a2 a3
   have a0 := hT7.cell 0 rfl
   have a1 := hT7.cell 1 rfl
   have a2 := hT7.cell 2 rfl
   have a3 := hT7.cell 3 rfl
   go_wp2_with (go_at_call 106; refine (HJ.out _).mono ?_; rintro e w8 ⟨rfl, hb8⟩)
   go_roundg f'
   case measure => omega
   case rel =>
    exact ⟨by omega, r', p', l1 ++ [v], l', HC.out.2, HC.out.1, (HR6.out.kept (hb7.gbr none) (fun k e => by cases e)).kept (hb8.gbr none) (fun k e => by cases e), (HGR6.out.out (fun k _ h2 => hb7.block k h2) hb7.size).out (fun k _ h2 => hb8.block k h2) hb8.size, by have := HLEN.out; simp; omega, (HG6.out.own_row (hb7.gbr none) (fun k e => by cases e)).own_row (hb8.gbr none) (fun k e => by cases e)⟩
theorem infoTok : (Tryz.prog.info? 115).map (fun i => (i.zero, i.size, i.bytes)) = some (some (.agg #[.int .i64 0, .int .i64 0, .string ByteArray.empty, .int .i64 0]), 4, 40) := by kernel_rfl
theorem slTok : SlT Tryz.prog 104 115 4 40 := SlT.mk Tryz.underlying104 infoTok rfl
def ScAt (W : World) (g : Nat) (s : ByteArray) (i : Nat) (v : Value) : Prop := W.heap[g]? = some (.cells #[.string s, .int .i64 i, v] 146 (0, 0))
theorem ScAt.lt {W : World} {g i : Nat} {s : ByteArray} {v : Value} (h : ScAt W g s i v) : g < W.heap.size := (Array.getElem?_eq_some_iff.1 h).1
theorem ScAt.cell {W : World} {g i : Nat} {s : ByteArray} {v : Value} (h : ScAt W g s i v) (j : Nat) {u : Value} (hu : [Value.string s, .int .i64 i, v][j]? = some u) : W.cell? ⟨g, j, none⟩ = some u := by
 unfold ScAt at h
 rw [cell_of_row W g j _ _ _ h, <- Array.getElem?_toList]
 exact hu
theorem ScAt.frozen {W : World} {g i : Nat} {s : ByteArray} {v : Value} (h : ScAt W g s i v) (j : Nat) : W.frozen? ⟨g, j, none⟩ = false := by
 unfold ScAt at h
 simp [World.frozen?, h]
theorem ScAt.under {W W' : World} {g i B : Nat} {s : ByteArray} {v : Value} (h : ScAt W g s i v) (hb : Below B W W') (hg : g < B) : ScAt W' g s i v := (hb.block g hg).trans h
theorem ScAt.keptR {W W' : World} {g i : Nat} {s : ByteArray} {v : Value} {row : Option Nat} (h : ScAt W g s i v) (hg : W.grownBy W' row) (hne : row ≠ some g) : ScAt W' g s i v := (hg.block g h.lt (fun e => hne e.symm)).trans h
theorem ScAt.set1 {W : World} {g i : Nat} {s : ByteArray} {v : Value} (h : ScAt W g s i v) (k : Nat) : ScAt (W.setCell ⟨g, 1, none⟩ (.int .i64 k)) g s k v := by
 unfold ScAt at h ⊢
 simp [World.setCell, Array.getElem?_modify, h]
theorem ScAt.set2 {W : World} {g i : Nat} {s : ByteArray} {v : Value} (h : ScAt W g s i v) (u : Value) : ScAt (W.setCell ⟨g, 2, none⟩ u) g s i u := by
 unfold ScAt at h ⊢
 simp [World.setCell, Array.getElem?_modify, h]
structure ScS (w W : World) (g : Nat) (s : ByteArray) (i : Nat) (l : List Tok) : Prop where
 ex : ∃ v, ScAt W g s i v /\ Own W (g + 1) 115 encTok 4 v l
 below : Below g w W
theorem lay_any (w : World) (g i k n a : Nat) (s x : ByteArray) (kd : Int) (l : List Tok) (hS : ScS w w g s i l) (hl : l.length <= 65536) :
 Calls Tryz.prog 139 #[.pointer (some ⟨g, 0, none⟩), .agg #[.int .i64 kd, .int .i64 n, .string x, .int .i64 a], .int .i64 k] w fun e w' => e = .returned (.tuple #[]) /\ ScS w w' g s k (l ++ [⟨kd, n, x, i⟩]) := by
 obtain ⟨⟨v, h1, h2⟩, h3⟩ := hS
 obtain ⟨p0, n0, c0', rfl⟩ : ∃ p n c, v = Value.slice p n c := (by obtain ⟨p, c, hv, _, _⟩ := h2.len; exact ⟨p, _, c, hv⟩)
 have hg := h1.lt
 have hA : Below w.heap.size w (w.alloc (.cells #[.int .i64 kd, .int .i64 n, .string x, .int .i64 a] 115)) := (Below.refl _ _).alloc (Nat.le_refl _) _
 have hB : (w.alloc (.cells #[.int .i64 kd, .int .i64 n, .string x, .int .i64 a] 115)).heap[w.heap.size]? = some (.cells #[.int .i64 kd, .int .i64 n, .string x, .int .i64 a] 115 (0, 0)) := heap_alloc_at rfl
 have hs1 : (w.alloc (.cells #[.int .i64 kd, .int .i64 n, .string x, .int .i64 a] 115)).heap.size = w.heap.size + 1 := by simp
 obtain ⟨W1, hW1⟩ : ∃ W1, w.alloc (.cells #[.int .i64 kd, .int .i64 n, .string x, .int .i64 a] 115) = W1 := ⟨_, rfl⟩
 rw [hW1] at hA hB hs1
 have HLT : Hid (∀ k, (Value.slice p0 n0 c0').ownBlock = some k -> g + 1 <= k /\ k < w.heap.size) := h2.lt
 have HC1 := Lib.hid (h1.under hA hg)
 have HO1 := Lib.hid (h2.below hA (Nat.le_refl _))
 have H3 := Lib.hid (h3.trans (hA.mono (Nat.le_of_lt hg)))
 have HS1 := Lib.hid hs1
 have HL : Hid (l.length <= 65536) := hl
 clear h1 h2 h3 hA hs1 hl
 go_enter Tryz.func139, Tryz.ntmps139
 go_upto_region 1 with fail
 try rw [hW1]
 clear hW1
 have c1 := HC1.out.cell 1 (u := .int .i64 i) rfl
 have t3 : W1.cell? ⟨w.heap.size, 3, none⟩ = some (.int .i64 a) := by rw [cell_of_row W1 w.heap.size 3 _ _ _ hB]; rfl
 have t4 : W1.frozen? ⟨w.heap.size, 3, none⟩ = false := by simp [World.frozen?, hB]
 have hgw : g ≠ w.heap.size := by omega
 have hgw1 : w.heap.size < W1.heap.size := by have := HS1.out; omega
 go_upto_region 2 with fail
 have hg2 := grownBy_set W1 w.heap.size 3 (.int .i64 (i : Int))
 have hB2 : (W1.setCell ⟨w.heap.size, 3, none⟩ (.int .i64 (i : Int))).heap[w.heap.size]? = some (.cells #[.int .i64 kd, .int .i64 n, .string x, .int .i64 i] 115 (0, 0)) := by simp [World.setCell, Array.getElem?_modify, hB]
 have hC2 := HC1.out.keptR hg2 (fun e => hgw (by injection e with e; exact e.symm))
 have hO2 : Own (W1.setCell ⟨w.heap.size, 3, none⟩ (.int .i64 (i : Int))) (g + 1) 115 encTok 4 (.slice p0 n0 c0') l := HO1.out.same (fun k e => hg2.block k (HO1.out.lt k e).2 (fun e2 => by have := HLT.out k e; injection e2 with e2; omega))
 have hb2 : Below g w (W1.setCell ⟨w.heap.size, 3, none⟩ (.int .i64 (i : Int))) := H3.out.grown hg2 (by omega) (fun k e => by injection e with e; omega)
 obtain ⟨W2, hW2⟩ : ∃ W2, W1.setCell ⟨w.heap.size, 3, none⟩ (.int .i64 (i : Int)) = W2 := ⟨_, rfl⟩
 rw [hW2] at hB2 hC2 hO2 hb2
 try rw [hW2]
 have hz2 : g < W2.heap.size := hC2.lt
 have hw2 : w.heap.size < W2.heap.size := by rw [<- hW2]; simpa using hgw1
 clear hW2 c1 t3 t4 hg2
 have t0 : W2.cell? ⟨w.heap.size, 0, none⟩ = some (.int .i64 kd) := by rw [cell_of_row W2 w.heap.size 0 _ _ _ hB2]; rfl
 have t1 : W2.cell? ⟨w.heap.size, 1, none⟩ = some (.int .i64 n) := by rw [cell_of_row W2 w.heap.size 1 _ _ _ hB2]; rfl
 have t2 : W2.cell? ⟨w.heap.size, 2, none⟩ = some (.string x) := by rw [cell_of_row W2 w.heap.size 2 _ _ _ hB2]; rfl
 have t3 : W2.cell? ⟨w.heap.size, 3, none⟩ = some (.int .i64 i) := by rw [cell_of_row W2 w.heap.size 3 _ _ _ hB2]; rfl
 have c2 := hC2.cell 2 (u := .slice p0 n0 c0') rfl
 have HOX : Hid (Own (W2.alloc (.cells #[.int .i64 kd, .int .i64 n, .string x, .int .i64 i] 115)) (g + 1) 115 encTok 4 (.slice p0 n0 c0') l) := hO2.below ((Below.refl _ _).alloc (Nat.le_refl _) _) (Nat.le_refl _)
 have HRX : Hid (Rd (W2.alloc (.cells #[.int .i64 kd, .int .i64 n, .string x, .int .i64 i] 115)) (W2.heap.size + 1) encTok 4 (.slice (some ⟨W2.heap.size, 0, none⟩) 1 1) [(⟨kd, n, x, i⟩ : Tok)]) := Rd.one codecTok (heap_alloc_at rfl) rfl (by omega)
 have HCX : Hid (ScAt (W2.alloc (.cells #[.int .i64 kd, .int .i64 n, .string x, .int .i64 i] 115)) g s i (.slice p0 n0 c0')) := hC2.under ((Below.refl _ _).alloc (Nat.le_refl _) _) hz2
 have HBX : Hid (Below g w (W2.alloc (.cells #[.int .i64 kd, .int .i64 n, .string x, .int .i64 i] 115))) := hb2.alloc (by omega) _
 have HW2 : Hid (w.heap.size < W2.heap.size /\ g < w.heap.size) := ⟨hw2, hg⟩
 clear hC2 hO2 hb2 hB2
 go_region_law
  (first
   | (refine step_append_rd slTok codecTok (W2.alloc (.cells #[.int .i64 kd, .int .i64 n, .string x, .int .i64 i] 115)).drew (by rfl) (.tmp 15) (.tmp 17) (by rfl) (v := .slice p0 n0 c0') (by rfl) (by rfl) HOX.out HRX.out (by have := HL.out; simp only [List.length_singleton]; unfold maxLen; omega) (by have := HL.out; simp only [List.length_singleton]; omega) (by have := HW2.out; show g + 1 <= (W2.alloc _).heap.size; simp; omega) ?_
      intro v9 w9 ho9 hg9 hat9
      obtain ⟨p9, n9, c9, rfl⟩ : ∃ p n c, v9 = Value.slice p n c := (by obtain ⟨p, c, hv, h1, h2⟩ := ho9.len; exact ⟨p, _, c, hv⟩)
      have H9 : ScAt w9 g s i (.slice p0 n0 c0') := (hg9.block g (by have := HCX.out.lt; exact this) (fun e => by have := (HOX.out.lt _ e.symm).1; omega)).trans HCX.out
      have b2 := H9.cell 2 (u := .slice p0 n0 c0') rfl
      have bf := H9.frozen 2
      have b1 := H9.cell 1 (u := .int .i64 i) rfl
      have bf1 := H9.frozen 1)
   | fail)
 all_goals
  have HB9 : Below g w w9 := (show Below g w (W2.alloc (.cells #[.int .i64 kd, .int .i64 n, .string x, .int .i64 i] 115)).drew from HBX.out.drew).grown hg9 (by have := HW2.out; show g <= (W2.alloc _).heap.size; simp; omega) (fun k e => by have := (HOX.out.lt k e).1; omega)
  have HN9 := H9.set2 (.slice p9 n9 c9)
  have HN10 := HN9.set1 k
  have hg10 := (grownBy_set w9 g 2 (.slice p9 n9 c9)).trans (grownBy_set _ g 1 (.int .i64 (k : Int)))
  have ho10 := ho9.same (w' := (w9.setCell ⟨g, 2, none⟩ (.slice p9 n9 c9)).setCell ⟨g, 1, none⟩ (.int .i64 (k : Int))) (fun j e => hg10.block j (ho9.lt j e).2 (fun e2 => by have := (ho9.lt j e).1; injection e2 with e2; omega))
  have hb10 := HB9.grown hg10 (by have := H9.lt; omega) (fun j e => by injection e with e; omega)
  go_wp2_with fail
  go_end0
  exact ⟨rfl, ⟨⟨_, HN10, ho10⟩, hb10⟩⟩
theorem index_ge : ∀ (l : List UInt8) (c : UInt8), decide (0 <= Lib.indexByte l c) = l.any (fun b => decide (b = c))
 | [], c => by simp [Lib.indexByte]
 | b :: l, c => by
   have ih := index_ge l c
   unfold Lib.indexByte
   rw [List.any_cons]
   by_cases h : b = c
   ·simp [h]
   ·have h2 : (b == c) = false := by simpa using h
    rw [h2, if_neg (by decide), decide_eq_false h, Bool.false_or, <- ih]
    by_cases h3 : Lib.indexByte l c = -1
    ·simp [h3]
    ·have h4 : (Lib.indexByte l c == -1) = false := by simpa using h3
     rw [h4, if_neg (by decide)]
     have h5 : -1 <= Lib.indexByte l c := index_min l c
     by_cases h6 : 0 <= Lib.indexByte l c
     ·rw [decide_eq_true h6, decide_eq_true (by omega)]
     ·omega
where index_min : ∀ (l : List UInt8) (c : UInt8), -1 <= Lib.indexByte l c
 | [], c => by simp [Lib.indexByte]
 | b :: l, c => by
   have ih := index_min l c
   unfold Lib.indexByte
   split
   ·omega
   ·split
    ·omega
    ·omega
theorem u8_eq (b c : UInt8) : (b = c) = (c.toNat = b.toNat) := by
 apply propext
 constructor
 ·intro h; rw [h]
 ·intro h; exact (UInt8.toNat_inj.1 h).symm
theorem sp_index (c : UInt8) : decide (0 <= Lib.indexByte [32, 9, 10, 13] c) = spCh c := by
 rw [index_ge]
 simp only [List.any_cons, List.any_nil, Bool.or_false, u8_eq, spCh]
 simp only [Bool.or_assoc]
 rfl
theorem mk_index (c : UInt8) : decide (0 <= Lib.indexByte [123, 125, 91, 93, 58, 44] c) = mkCh c := by
 rw [index_ge]
 simp only [List.any_cons, List.any_nil, Bool.or_false, u8_eq, mkCh]
 simp only [Bool.or_assoc]
 rfl
theorem askV_yes {n : ByteArray} (h : askB n = true) : ∃ k, askV n = some (fnV k) := by
 unfold askV
 repeat' split
 all_goals first | exact ⟨_, rfl⟩ | skip
 rename_i h1 h2 h3 h4 h5 h6 h7 h8
 unfold askB stampB at h
 simp [h1, h2, h3, h4, h5, h6, h7, h8] at h
theorem askV_no {n : ByteArray} (h : askB n = false) : askV n = none := by
 unfold askB stampB at h
 simp only [Bool.or_eq_false_iff, decide_eq_false_iff_not] at h
 obtain ⟨h1, h2, h3, h4, h5, h6, h7, h8⟩ := h
 unfold askV
 rw [if_neg h8, if_neg h7, if_neg h6, if_neg h5, if_neg h4, if_neg h3, if_neg h2, if_neg h1]
theorem func_some (k : Nat) (w : World) : (binOp BinOp.eql 133 (.func (.func k) #[] #[]) .nilFunc).run Tryz.prog w = .ok (.bool false) w := by kernel_rfl
theorem func_nil (w : World) : (binOp BinOp.eql 133 .nilFunc .nilFunc).run Tryz.prog w = .ok (.bool true) w := by kernel_rfl
theorem rightC_of (n : ByteArray) (x : JV) : rightC n x = ((decide (x.k = 4) && (decide (x.s.size <= 255) && (decide (x.s.size <= 64) || !isFieldB n))) && ((!decide (n = svInBook) || idB x.s) && (!stampB n || (secF x.s.data.toList).isSome))) := by
 unfold rightC
 cases decide (x.k = 4) <;> cases decide (x.s.size <= 255) <;> cases decide (x.s.size <= 64) <;> cases isFieldB n <;> rfl
theorem cond_any (name : ByteArray) (x : JV) (r : RV) (hk : r.k = x.k) (hs : r.s = x.s) (hsn : name.size <= maxLen) (hss : x.s.size <= maxLen) (w : World) (hall : AllAt w) :
 Calls Tryz.prog 87 #[RM.val ⟨name, r⟩] w fun e w' => e = .returned (.int .i64 (condE name x)) /\ Below w.heap.size w w' := by
 obtain ⟨k, n, s, pl, nl, cl, pm, nm, cm⟩ := r
 dsimp only [RM.val] at *
 subst hk hs
 have hh : (w.alloc (.cells #[.string name, .int .i64 x.k, .int .i64 n, .string x.s, .slice pl nl cl, .slice pm nm cm] 32)).heap[w.heap.size]? = some (.cells #[.string name, .int .i64 x.k, .int .i64 n, .string x.s, .slice pl nl cl, .slice pm nm cm] 32) := heap_alloc_at rfl
 have hb0 : Below w.heap.size w (w.alloc (.cells #[.string name, .int .i64 x.k, .int .i64 n, .string x.s, .slice pl nl cl, .slice pm nm cm] 32)) := (Below.refl _ _).alloc (Nat.le_refl _) _
 have HFI : Hid (∀ W, Below w.heap.size w W -> Calls Tryz.prog 114 #[.string name] W fun e w' => e = .returned (.bool (isFieldB name)) /\ W = w') := fun W hW => field_is name W (hall.below hW)
 have HID : Hid (∀ W, Calls Tryz.prog 115 #[.string x.s] W fun e w' => e = .returned (.bool (idB x.s)) /\ w' = W) := fun W => identIs_any x.s W hss
 have HST : Hid (∀ W, Calls Tryz.prog 116 #[.string x.s] W fun e w' => e = .returned (.bool (secF x.s.data.toList).isSome) /\ Below W.heap.size W w') := fun W => stampIs_any x.s W hss
 have HAV : Hid (∀ W b, AsksAt W b -> (Instr.lookup 131 (.map (some b)) (.string name) false).run Tryz.prog W = .ok ((askV name).getD .nilFunc) W) := fun W b h => h.look hsn
 have HAY : Hid (askB name = true -> ∃ k, askV name = some (fnV k)) := askV_yes
 have HAN : Hid (askB name = false -> askV name = none) := askV_no
 have HE : Hid (condE name x = if askB name || isFieldB name then (if ((decide (x.k = 4) && (decide (x.s.size <= 255) && (decide (x.s.size <= 64) || !isFieldB name))) && ((!decide (name = svInBook) || idB x.s) && (!stampB name || (secF x.s.data.toList).isSome))) then 0 else 1) else 200) := by
  unfold Hid
  rw [<- rightC_of]
  rfl
 obtain ⟨E, hE⟩ : ∃ E, condE name x = E := ⟨_, rfl⟩
 obtain ⟨A, hA⟩ : ∃ A, askB name = A := ⟨_, rfl⟩
 obtain ⟨F, hF⟩ : ∃ A, isFieldB name = A := ⟨_, rfl⟩
 obtain ⟨I, hI⟩ : ∃ A, idB x.s = A := ⟨_, rfl⟩
 obtain ⟨T, hT⟩ : ∃ A, (secF x.s.data.toList).isSome = A := ⟨_, rfl⟩
 obtain ⟨av, hav⟩ : ∃ a, askV name = a := ⟨_, rfl⟩
 rw [hE, hA, hF, hI, hT] at HE
 rw [hE]
 rw [hF] at HFI
 rw [hI] at HID
 rw [hT] at HST
 rw [hA] at HAY HAN
 rw [hav] at HAV HAY HAN
 obtain ⟨K, hK⟩ : ∃ K, x.k = K := ⟨_, rfl⟩
 obtain ⟨S, hS⟩ : ∃ S, x.s = S := ⟨_, rfl⟩
 rw [hK, hS] at HE hh hb0
 rw [hS] at HID HST
 rw [hK, hS]
 obtain ⟨W0, hW0⟩ : ∃ W, w.alloc (.cells #[.string name, .int .i64 K, .int .i64 n, .string S, .slice pl nl cl, .slice pm nm cm] 32) = W := ⟨_, rfl⟩
 rw [hW0] at hh hb0
 have HB0 := Lib.hid hb0
 have hw0 := hb0.size
 have hz := (Array.getElem?_eq_some_iff.1 hh).1
 have a0 : W0.cell? ⟨w.heap.size, 0, none⟩ = some (.string name) := (cell_of_row W0 w.heap.size 0 _ _ _ hh).trans rfl
 have a1 : W0.cell? ⟨w.heap.size, 1, none⟩ = some (.int .i64 K) := (cell_of_row W0 w.heap.size 1 _ _ _ hh).trans rfl
 have a3 : W0.cell? ⟨w.heap.size, 3, none⟩ = some (.string S) := (cell_of_row W0 w.heap.size 3 _ _ _ hh).trans rfl
 have hsz : (0 : Int) <= (S.size : Int) := Int.natCast_nonneg _
 clear hh hb0 hE hA hF hI hT hav hK hS hall hss
 go_enter Tryz.func87, Tryz.ntmps87
 go_upto_region 1 with fail
 try rw [hW0]
 clear hW0
 have hb00 : Below W0.heap.size W0 W0.drew := (Below.refl _ _).drew
 have HF0 : Hid (∀ W, Below W0.heap.size W0 W -> Calls Tryz.prog 114 #[.string name] W fun e w' => e = .returned (.bool F) /\ W = w') := fun W hW => HFI.out W (HB0.out.trans (hW.mono hw0))
 go_cut [14] from 4 to 14 (fun v wx => v = .bool (!A && !F) /\ Hid (Below W0.heap.size W0 wx))
 case first =>
  cases A with
  | true =>
    obtain ⟨kk, hkk⟩ := HAY.out rfl
    rw [hkk] at HAV
    unfold fnV at HAV
    dsimp only [Option.getD] at HAV
    clear hkk HAY HAN
    have hfs := func_some
    first
     | (go_region_with
      (first
       | (go_at_call 93
          (with_reducible refine (asks_any _).mono ?_)
          rintro e w1 ⟨b, rfl, hA1, hlb, hb1'⟩
          have hb1 : Below W0.heap.size W0 w1 := hb00.trans hb1'
          have hlk := HAV.out w1 b hA1
          have c0 := bcs hb1 hz a0)
       | fail))
     | fail
    all_goals go_wp2_with fail
    all_goals go_meet
    all_goals exact ⟨rfl, hb1⟩
  | false =>
    rw [HAN.out rfl] at HAV
    dsimp only [Option.getD] at HAV
    clear HAY HAN
    have hfs := func_nil
    go_region_law
     (first
      | (go_simp; go_at_call 93
         (with_reducible refine (asks_any _).mono ?_)
         rintro e w1 ⟨b, rfl, hA1, hlb, hb1'⟩
         have hb1 : Below W0.heap.size W0 w1 := hb00.trans hb1'
         have hlk := HAV.out w1 b hA1
         have c0 := bcs hb1 hz a0)
      | (go_simp; go_at_call 114
         (with_reducible refine (HF0.out _ hb1).mono ?_)
         rintro e w2 ⟨rfl, rfl⟩)
      | fail)
    all_goals go_wp2_with fail
    all_goals go_meet
    all_goals exact ⟨rfl, hb1⟩
 case rest =>
 obtain ⟨rfl, HB1⟩ := hcut
 obtain ⟨W1, rfl⟩ : ∃ W, W = wc := ⟨_, rfl⟩
 have c0 := bcs HB1.out hz a0
 have c1 := bcs HB1.out hz a1
 have c3 := bcs HB1.out hz a3
 have hz1 := Nat.lt_of_lt_of_le hz HB1.out.size
 have HBW : Hid (Below w.heap.size w W1) := HB0.out.trans (HB1.out.mono hw0)
 have hw1 := HBW.out.size
 have HF1 : Hid (Calls Tryz.prog 114 #[.string name] W1 fun e w' => e = .returned (.bool F) /\ W1 = w') := HFI.out W1 HBW.out
 clear a0 a1 a3 hz HF0 HAV HAY HAN HFI hb00 HB1 HB0
 by_cases hAF : (A || F) = true
 ·have hn : (!A && !F) = false := by revert hAF; cases A <;> cases F <;> decide
  rw [hn]
  obtain ⟨k4, hk4⟩ : ∃ b, decide (K = 4) = b := ⟨_, rfl⟩
  obtain ⟨c255, h255⟩ : ∃ b, decide (S.size <= 255) = b := ⟨_, rfl⟩
  obtain ⟨c64, h64⟩ : ∃ b, decide (S.size <= 64) = b := ⟨_, rfl⟩
  have q4 : (K == 4) = k4 := by rw [<- hk4]; rfl
  have q255 : decide ((S.size : Int) <= 255) = c255 := by rw [<- h255]; exact decide_eq_decide.2 (by omega)
  have q64 : decide ((S.size : Int) <= 64) = c64 := by rw [<- h64]; exact decide_eq_decide.2 (by omega)
  have q255' : decide (S.size <= 255) = c255 := h255
  have q64' : decide (S.size <= 64) = c64 := h64
  have HE1 : Hid (E = if ((k4 && (c255 && (c64 || !F))) && ((!decide (name = svInBook) || I) && (!stampB name || T))) then 0 else 1) := by
   unfold Hid
   rw [HE.out, if_pos hAF, hk4, h255, h64]
  clear hk4 h255 h64 hAF HE hn
  go_upto_region 3 with fail
  go_cut [3] from 15 to 38 (fun v wx => v = .bool (k4 && (c255 && (c64 || !F))) /\ W1 = wx)
  case first =>
   cases k4 <;> cases c255 <;> cases c64
   all_goals
    go_wp2_with (go_at_call 114; (with_reducible refine HF1.out.mono ?_); rintro e w2 ⟨rfl, rfl⟩)
    go_meet
    exact ⟨rfl, rfl⟩
  case rest =>
  obtain ⟨rfl, rfl⟩ := hcut
  obtain ⟨R, hR⟩ : ∃ R, (k4 && (c255 && (c64 || !F))) = R := ⟨_, rfl⟩
  rw [hR] at HE1 ⊢
  clear hR q4 q255 q64 q255' q64' HF1
  have HID1 := Lib.hid (HID.out W1)
  have HST1 := Lib.hid (HST.out W1)
  clear HID HST
  by_cases h1 : name = svInBook
  ·have HE2 : Hid (E = if R && I then 0 else 1) := by
    unfold Hid
    rw [HE1.out, h1]
    cases R <;> cases I <;> rfl
   subst h1
   unfold svInBook at c0 ⊢
   clear HE1
   cases R <;> cases I
   all_goals
    go_wp2_with (go_at_call 115; (with_reducible refine HID1.out.mono ?_); rintro e w2 ⟨rfl, rfl⟩)
    go_ret
    exact ⟨by rw [HE2.out]; rfl, HBW.out⟩
  by_cases h2 : stampB name = true
  ·have HE2 : Hid (E = if R && T then 0 else 1) := by
    unfold Hid
    rw [HE1.out, decide_eq_false h1, h2]
    cases R <;> cases T <;> rfl
   have h3 : name = svCrBef \/ name = svCrAft \/ name = svUpBef \/ name = svUpAft := by
    unfold stampB at h2
    simpa using h2
   clear h1 h2 HE1
   rcases h3 with rfl | rfl | rfl | rfl
   all_goals
    try unfold svCrBef at *
    try unfold svCrAft at *
    try unfold svUpBef at *
    try unfold svUpAft at *
    cases R <;> cases T
   all_goals
    go_wp2_with (go_at_call 116; (with_reducible refine HST1.out.mono ?_); rintro e w2 ⟨rfl, hb2⟩)
    go_ret
    first
     | exact ⟨by rw [HE2.out]; rfl, HBW.out.trans (hb2.mono hw1)⟩
     | exact ⟨by rw [HE2.out]; rfl, HBW.out⟩
  ·have HE2 : Hid (E = if R then 0 else 1) := by
    unfold Hid
    rw [HE1.out, decide_eq_false h1, Bool.eq_false_iff.2 h2]
    cases R <;> rfl
   unfold stampB at h2
   simp only [Bool.or_eq_true, decide_eq_true_eq, not_or] at h2
   obtain ⟨n2, n3, n4, n5⟩ := h2
   have q1 : (name.toList == [105, 110, 65, 100, 100, 114, 101, 115, 115, 66, 111, 111, 107]) = false := by rw [<- bytes_dec]; exact decide_eq_false h1
   have q2 : (name.toList == [99, 114, 101, 97, 116, 101, 100, 66, 101, 102, 111, 114, 101]) = false := by rw [<- bytes_dec]; exact decide_eq_false n2
   have q3 : (name.toList == [99, 114, 101, 97, 116, 101, 100, 65, 102, 116, 101, 114]) = false := by rw [<- bytes_dec]; exact decide_eq_false n3
   have q4 : (name.toList == [117, 112, 100, 97, 116, 101, 100, 66, 101, 102, 111, 114, 101]) = false := by rw [<- bytes_dec]; exact decide_eq_false n4
   have q5 : (name.toList == [117, 112, 100, 97, 116, 101, 100, 65, 102, 116, 101, 114]) = false := by rw [<- bytes_dec]; exact decide_eq_false n5
   clear h1 n2 n3 n4 n5 HE1
   cases R
   all_goals
    go_wp2_with fail
    go_ret
    exact ⟨by rw [HE2.out]; rfl, HBW.out⟩
 ·have hn : (!A && !F) = true := by revert hAF; cases A <;> cases F <;> decide
  have HE2 : Hid (E = 200) := by unfold Hid; rw [HE.out, if_neg hAF]
  rw [hn]
  clear hAF HE hn
  go_wp2_with fail
  go_ret
  exact ⟨by rw [HE2.out]; rfl, HBW.out⟩
end
end Go.Proofs.YtffhccmppdgmfaaGreatDoor
