import Derived.Test.YtjhginendpjimaaGreatDoorB00
import Derived.Test.YtjhginendpjimaaGreatDoorB02
set_option linter.unusedSimpArgs false
set_option linter.unusedVariables false
set_option maxRecDepth 200000
set_option maxHeartbeats 8000000
namespace Go.Proofs.YtjhginendpjimaaGreatDoor
section
open Go Go.RowKit Go.OpenShut
abbrev Tok.val (t : Tok) : Value := .agg #[.int .i64 t.kind, .int .i64 t.n, .string t.s, .int .i64 t.pos]
abbrev Tok.obj (t : Tok) : Obj := .cells #[.int .i64 t.kind, .int .i64 t.n, .string t.s, .int .i64 t.pos] 97
def TokAt (W : World) (g : Nat) (t : Tok) : Prop := W.heap[g]? = some (.cells #[.int .i64 t.kind, .int .i64 t.n, .string t.s, .int .i64 t.pos] 97 (0, 0))
theorem TokAt.lt {W : World} {g : Nat} {t : Tok} (h : TokAt W g t) : g < W.heap.size := (Array.getElem?_eq_some_iff.1 h).1
theorem TokAt.cell {W : World} {g : Nat} {t : Tok} (h : TokAt W g t) (j : Nat) {u : Value} (hu : (encTok t)[j]? = some u) : W.cell? ⟨g, j, none⟩ = some u := by
 unfold TokAt at h
 rw [cell_of_row W g j _ _ _ h, <- Array.getElem?_toList]
 exact hu
theorem TokAt.frozen {W : World} {g : Nat} {t : Tok} (h : TokAt W g t) (j : Nat) : W.frozen? ⟨g, j, none⟩ = false := by
 unfold TokAt at h
 simp [World.frozen?, h]
theorem TokAt.keep {W W' : World} {g : Nat} {t : Tok} (h : TokAt W g t) (hk : W'.heap[g]? = W.heap[g]?) : TokAt W' g t := hk.trans h
theorem TokAt.stored {W : World} {g : Nat} {t : Tok} (h : TokAt W g t) (q : Tok) : TokAt ((((W.setCell ⟨g, 0, none⟩ (.int .i64 q.kind)).setCell ⟨g, 1, none⟩ (.int .i64 q.n)).setCell ⟨g, 2, none⟩ (.string q.s)).setCell ⟨g, 3, none⟩ (.int .i64 q.pos)) g q := by
 unfold TokAt at h ⊢
 simp [World.setCell, Array.getElem?_modify, h]
theorem grownBy_setT (W : World) (g : Nat) (q : Tok) : W.grownBy ((((W.setCell ⟨g, 0, none⟩ (.int .i64 q.kind)).setCell ⟨g, 1, none⟩ (.int .i64 q.n)).setCell ⟨g, 2, none⟩ (.string q.s)).setCell ⟨g, 3, none⟩ (.int .i64 q.pos)) (some g) :=
 (((grownBy_set W g 0 _).trans (grownBy_set _ g 1 _)).trans (grownBy_set _ g 2 _)).trans (grownBy_set _ g 3 _)
theorem rd_lens {α : Type} {enc : α -> List Value} {sz B : Nat} {w : World} {v : Value} {xs : List α} (h : Rd w B enc sz v xs) : ∃ p cap, v = .slice p xs.length cap /\ xs.length <= cap /\ cap <= 9223372036854775807 := by
 obtain ⟨p, cap, he, h1, h2, _⟩ := h
 exact ⟨p, cap, he, h1, h2⟩
def Tok.zero : Tok := ⟨0, 0, ⟨#[]⟩, 0⟩
theorem infoTk : (Tryz.prog.info? 97).map (fun i => (i.zero, i.size, i.bytes)) = some (some (.agg #[.int .i64 0, .int .i64 0, .string ByteArray.empty, .int .i64 0]), 4, 40) := by kernel_rfl
theorem slTk : SlT Tryz.prog 86 97 4 40 := SlT.mk Tryz.underlying86 infoTk rfl
def RdrAt (W : World) (g : Nat) (v : Value) (en pa : Nat) : Prop := W.heap[g]? = some (.cells #[v, .int .i64 en, .int .i64 pa] 94 (0, 0))
theorem RdrAt.lt {W : World} {g en pa : Nat} {v : Value} (h : RdrAt W g v en pa) : g < W.heap.size := (Array.getElem?_eq_some_iff.1 h).1
theorem RdrAt.cell {W : World} {g en pa : Nat} {v : Value} (h : RdrAt W g v en pa) (j : Nat) {u : Value} (hu : [v, Value.int .i64 en, .int .i64 pa][j]? = some u) : W.cell? ⟨g, j, none⟩ = some u := by
 unfold RdrAt at h
 rw [cell_of_row W g j _ _ _ h, <- Array.getElem?_toList]
 exact hu
theorem RdrAt.frozen {W : World} {g en pa : Nat} {v : Value} (h : RdrAt W g v en pa) (j : Nat) : W.frozen? ⟨g, j, none⟩ = false := by
 unfold RdrAt at h
 simp [World.frozen?, h]
theorem RdrAt.keep {W W' : World} {g en pa : Nat} {v : Value} (h : RdrAt W g v en pa) (hk : W'.heap[g]? = W.heap[g]?) : RdrAt W' g v en pa := hk.trans h
theorem RdrAt.set0 {W : World} {g en pa : Nat} {v : Value} (h : RdrAt W g v en pa) (u : Value) : RdrAt (W.setCell ⟨g, 0, none⟩ u) g u en pa := by
 unfold RdrAt at h ⊢
 simp [World.setCell, Array.getElem?_modify, h]
theorem RdrAt.set2 {W : World} {g en pa : Nat} {v : Value} (h : RdrAt W g v en pa) (k : Nat) : RdrAt (W.setCell ⟨g, 2, none⟩ (.int .i64 k)) g v en k := by
 unfold RdrAt at h ⊢
 simp [World.setCell, Array.getElem?_modify, h]
structure RdS (W : World) (g : Nat) (ts : List Tok) (en pa : Nat) : Prop where
 ex : ∃ p n c, RdrAt W g (.slice p n c) en pa /\ Rd W g encTok 4 (.slice p n c) ts
theorem RdS.lt {W : World} {g en pa : Nat} {ts : List Tok} (h : RdS W g ts en pa) : g < W.heap.size := by
 obtain ⟨p, n, c, h1, _⟩ := h.ex
 exact h1.lt
theorem below_of {B : Nat} {w w' : World} {row : Option Nat} (h : w.grownBy w' row) (hb : B <= w.heap.size) (hr : ∀ k, row = some k -> B <= k) : Below B w w' := (Below.refl B w).grown h hb hr
theorem RdS.kept {W W' : World} {g en pa : Nat} {ts : List Tok} {row : Option Nat} (h : RdS W g ts en pa) (hg : W.grownBy W' row) (hr : ∀ k, row = some k -> g < k) : RdS W' g ts en pa := by
 have hl := h.lt
 obtain ⟨p, n, c, h1, h2⟩ := h.ex
 exact ⟨p, n, c, h1.keep (hg.block g hl (fun e => by have := hr g e.symm; omega)), h2.below (below_of hg (by omega) (fun k e => by have := hr k e; omega)) (Nat.le_refl _)⟩
theorem RdS.len {W : World} {g en pa : Nat} {ts : List Tok} (h : RdS W g ts en pa) : ∃ p c, RdrAt W g (.slice p ts.length c) en pa /\ Rd W g encTok 4 (.slice p ts.length c) ts /\ ts.length <= 9223372036854775807 := by
 obtain ⟨p, n, c, h1, h2⟩ := h.ex
 have hl := rd_nlen h2
 obtain ⟨p', c', hv, h3, h4⟩ := rd_lens h2
 simp only [Value.slice.injEq] at hv
 obtain ⟨rfl, rfl, rfl⟩ := hv
 exact ⟨p, c, h1, h2, by omega⟩
theorem is_any (t : Tok) (c : UInt8) (w : World) (b : Bool) (hb : isM t c = b) : Calls Tryz.prog 68 #[t.val, .string ⟨#[c]⟩] w fun e w' => e = .returned (.bool b) /\ Below w.heap.size w w' := by
 subst hb
 unfold isM
 obtain ⟨k, n, s, p⟩ := t
 dsimp only [Tok.val]
 by_cases h1 : k = 1
 ·subst h1
  by_cases h2 : s = ⟨#[c]⟩
  ·subst h2
   go_enter Tryz.func68, Tryz.ntmps68
   go_wp2_with fail
   go_ret
   exact ⟨by simp, (Below.refl _ _).alloc (Nat.le_refl _) _⟩
  ·have hq : (s.toList == (⟨#[c]⟩ : ByteArray).toList) = false := by rw [str_beq]; simpa using h2
   have HR : Hid ((decide ((1 : Int) = 1) && decide (s = ⟨#[c]⟩)) = false) := by simp [Hid, h2]
   rw [HR.out]
   clear h2
   obtain ⟨m, hm⟩ : ∃ m : ByteArray, ⟨#[c]⟩ = m := ⟨_, rfl⟩
   rw [hm] at hq ⊢
   clear HR hm
   go_enter Tryz.func68, Tryz.ntmps68
   go_wp2_with fail
   go_ret
   exact ⟨rfl, (Below.refl _ _).alloc (Nat.le_refl _) _⟩
 ·have HR : Hid ((decide (k = 1) && decide (s = ⟨#[c]⟩)) = false) := by simp [Hid, h1]
  rw [HR.out]
  have hq : (k == 1) = false := by simpa using h1
  clear h1 HR
  go_enter Tryz.func68, Tryz.ntmps68
  go_wp2_with fail
  go_ret
  exact ⟨rfl, (Below.refl _ _).alloc (Nat.le_refl _) _⟩
theorem _root_.Go.World.grownBy.keep_none {w w' : World} {row : Option Nat} (h : w.grownBy w' row) (g : Nat) (hg : g < w.heap.size) (hne : row ≠ some g := by (first | assumption | simp)) : w'.heap[g]? = w.heap[g]? := h.block g hg (fun e => hne e.symm)
theorem _root_.Go.World.grownBy.keep_some {w w1 w2 : World} {g : Nat} (h : w.grownBy w1 none) (h2 : w1.grownBy w2 (some g)) : w.grownBy w2 (some g) :=
 ⟨h2.os.trans h.os, h2.tape.trans h.tape, h2.output.trans h.output, Nat.le_trans h.size h2.size, fun k hk hne => (h2.block k (Nat.lt_of_lt_of_le hk h.size) hne).trans (h.block k hk (by simp))⟩
theorem _root_.Go.World.grownBy.new_row {w w1 w2 : World} {row : Option Nat} {x : Nat} (h : w.grownBy w1 row) (h2 : w1.grownBy w2 (some x)) (hx : w.heap.size <= x) : w.grownBy w2 row :=
 ⟨h2.os.trans h.os, h2.tape.trans h.tape, h2.output.trans h.output, Nat.le_trans h.size h2.size, fun k hk hne => (h2.block k (Nat.lt_of_lt_of_le hk h.size) (fun e => by cases e; omega)).trans (h.block k hk hne)⟩
def NxtRet (w : World) (g : Nat) (t : Tok) (ts : List Tok) (en pa : Nat) (e : Ending) (w' : World) : Prop := e = .returned t.val /\ RdS w' g ts en pa /\ w.grownBy w' (some g)
theorem next_any (w : World) (g en pa : Nat) (t : Tok) (ts : List Tok) (h : RdS w g (t :: ts) en pa) : Calls Tryz.prog 51 #[.pointer (some ⟨g, 0, none⟩)] w (NxtRet w g t ts en pa) := by
 obtain ⟨p, c, h1, h2, h3⟩ := h.len
 have hgl := h1.lt
 obtain ⟨N, hN⟩ : ∃ N, (t :: ts).length = N := ⟨_, rfl⟩
 rw [hN] at h1 h2 h3
 have hN1 : 1 <= N := by rw [<- hN]; simp
 have hr0 := h2
 obtain ⟨v1, hrun, hr1⟩ := slice_l slTk hr0 1 hN1
 obtain ⟨q1, n1, c1, rfl⟩ : ∃ q n c, v1 = Value.slice q n c := (by obtain ⟨p, c, hv, _, _⟩ := rd_lens hr1; exact ⟨p, _, c, hv⟩)
 rw [List.drop_one, List.tail_cons] at hr1
 obtain ⟨b, o, rfl, hb, hc0⟩ := rd_at' (k := 0) h2 (x := t) rfl
 rw [Nat.zero_mul, Nat.add_zero] at hc0
 obtain ⟨tk, tn, tS, tp⟩ := t
 have f0 : w.cell? ⟨b, o, none⟩ = some (.int .i64 tk) := hc0 0 _ rfl
 have f1 : w.cell? ⟨b, o + 1, none⟩ = some (.int .i64 tn) := hc0 1 _ rfl
 have f2 : w.cell? ⟨b, o + 2, none⟩ = some (.string tS) := hc0 2 _ rfl
 have f3 : w.cell? ⟨b, o + 3, none⟩ = some (.int .i64 tp) := hc0 3 _ rfl
 have c0 := h1.cell 0 rfl
 have z0 := h1.frozen 0
 have e0 : ((N : Int) == 0) = false := by simp; omega
 have e1 : (0 : Int) < (N : Int) := by omega
 have HR1 := Lib.hid hr1
 have H1 := Lib.hid h1
 clear hr0 hr1 h2 hc0 h1 hN h
 have hg0 := World.grownBy_alloc w (.cells #[.int .i64 0, .int .i64 0, .string ⟨#[]⟩, .int .i64 0] 97) none
 have hT0 : TokAt (w.alloc (.cells #[.int .i64 0, .int .i64 0, .string ⟨#[]⟩, .int .i64 0] 97)) w.heap.size Tok.zero := heap_alloc_at rfl
 have hs0 : (w.alloc (.cells #[.int .i64 0, .int .i64 0, .string ⟨#[]⟩, .int .i64 0] 97)).heap.size = w.heap.size + 1 := by simp
 have k0 : ∀ b o, b < w.heap.size -> (w.alloc (.cells #[.int .i64 0, .int .i64 0, .string ⟨#[]⟩, .int .i64 0] 97)).cell? ⟨b, o, none⟩ = w.cell? ⟨b, o, none⟩ := fun b o hb => ((Below.refl w.heap.size w).alloc (Nat.le_refl _) _).cell (p := ⟨b, o, none⟩) hb
 go_enter Tryz.func51, Tryz.ntmps51
 go_upto_region 1 with fail
 obtain ⟨W0, hW0⟩ : ∃ W0, w.alloc (.cells #[.int .i64 0, .int .i64 0, .string ⟨#[]⟩, .int .i64 0] 97) = W0 := ⟨_, rfl⟩
 rw [hW0] at hg0 hT0 hs0 k0
 try rw [hW0]
 clear hW0
 have p0 := (k0 g 0 hgl).trans c0
 have g0 := (k0 b o (by omega)).trans f0
 have g1 := (k0 b (o + 1) (by omega)).trans f1
 have g2 := (k0 b (o + 2) (by omega)).trans f2
 have g3 := (k0 b (o + 3) (by omega)).trans f3
 have hrun1 : ∀ W, (Instr.sliceAt 86 (.slice (some ⟨b, o, none⟩) N c) (some (.int .i64 1)) none none).run Tryz.prog W = .ok (.slice q1 n1 c1) W := hrun
 have HG0 := Lib.hid hg0
 have HT0 := Lib.hid hT0
 have HS0 := Lib.hid hs0
 have hgW : g < W0.heap.size := by omega
 clear c0 f0 f1 f2 f3 k0 hrun hg0 hT0 hs0 z0
 have hg1 := World.grownBy_alloc W0 (.cells #[.int .i64 tk, .int .i64 tn, .string tS, .int .i64 tp] 97) none
 have hT1 : TokAt (W0.alloc (.cells #[.int .i64 tk, .int .i64 tn, .string tS, .int .i64 tp] 97)) W0.heap.size ⟨tk, tn, tS, tp⟩ := heap_alloc_at rfl
 have hT2 : TokAt (W0.alloc (.cells #[.int .i64 tk, .int .i64 tn, .string tS, .int .i64 tp] 97)) w.heap.size Tok.zero := HT0.out.keep (hg1.keep_none _ HT0.out.lt)
 have hR1 : RdrAt (W0.alloc (.cells #[.int .i64 tk, .int .i64 tn, .string tS, .int .i64 tp] 97)) g (.slice (some ⟨b, o, none⟩) N c) en pa := (H1.out.keep (HG0.out.keep_none g (by omega))).keep (hg1.keep_none g hgW)
 go_upto_region 4 with fail
 have hz1 : (W0.alloc (.cells #[.int .i64 tk, .int .i64 tn, .string tS, .int .i64 tp] 97)).heap.size = w.heap.size + 2 := by have := HS0.out; simp; omega
 have hg1' := HG0.out.trans hg1
 obtain ⟨q0, hq0⟩ : ∃ q, W0.heap.size = q := ⟨_, rfl⟩
 have hqn : g ≠ q0 /\ w.heap.size ≠ q0 /\ g ≠ w.heap.size := by have := HS0.out; omega
 obtain ⟨W1, hW1⟩ : ∃ W1, W0.alloc (.cells #[.int .i64 tk, .int .i64 tn, .string tS, .int .i64 tp] 97) = W1 := ⟨_, rfl⟩
 rw [hW1] at hT1 hT2 hR1 hz1 hg1'
 rw [hq0] at hT1
 try rw [hW1]
 try rw [hq0]
 clear hg1 hW1 hq0 p0 g0 g1 g2 g3 HT0
 have p0 := hR1.cell 0 rfl
 have z0 := hR1.frozen 0
 have hR2 := hR1.set0 (.slice q1 n1 c1)
 have hg2 := grownBy_set W1 g 0 (.slice q1 n1 c1)
 have hT3 := hT1.keep (hg2.block q0 hT1.lt (by simp; omega))
 have hT4 := hT2.keep (hg2.block w.heap.size hT2.lt (by simp; omega))
 go_upto_region 5 with fail
 obtain ⟨W2, hW2⟩ : ∃ W2, W1.setCell ⟨g, 0, none⟩ (.slice q1 n1 c1) = W2 := ⟨_, rfl⟩
 rw [hW2] at hR2 hg2 hT3 hT4
 try rw [hW2]
 clear hW2 p0 z0 hrun1
 have a0 := hT3.cell 0 rfl
 have a1 := hT3.cell 1 rfl
 have a2 := hT3.cell 2 rfl
 have a3 := hT3.cell 3 rfl
 have b0 := hT4.cell 0 rfl
 have b1 := hT4.cell 1 rfl
 have b2 := hT4.cell 2 rfl
 have b3 := hT4.cell 3 rfl
 have y0 := hT4.frozen 0
 have y1 := hT4.frozen 1
 have y2 := hT4.frozen 2
 have y3 := hT4.frozen 3
 dsimp only [Tok.zero] at a0 a1 a2 a3 b0 b1 b2 b3
 have HR2 := Lib.hid hR2
 have HG2 := Lib.hid (hg1'.keep_some hg2)
 have HZ1 := Lib.hid hz1
 have HS2 := Lib.hid hg2.size
 clear hT1 hT2 hT3 hT4 hR1 hg1' hg2 hR2 hz1
 go_wp2_with fail
 refine bodyPost_ret (v := Tok.val ⟨tk, tn, tS, tp⟩) (by simp [results, Tryz.results51, go_sem, b0, b1, b2, b3]) rfl ⟨rfl, ?_, ?_⟩
 ·have hg3 := grownBy_setT W2 w.heap.size ⟨tk, tn, tS, tp⟩
  obtain ⟨p', n', c', h1, h2⟩ := (⟨_, _, _, HR2.out, (HR1.out.below (below_of HG2.out (by omega) (fun k e => by cases e; exact Nat.le_refl _)) (Nat.le_refl _))⟩ : ∃ p n c, RdrAt W2 g (.slice p n c) en pa /\ Rd W2 g encTok 4 (.slice p n c) ts)
  exact RdS.kept ⟨p', n', c', h1, h2⟩ hg3 (fun k e => by cases e; exact hgl)
 ·exact HG2.out.new_row (grownBy_setT W2 w.heap.size ⟨tk, tn, tS, tp⟩) (Nat.le_refl _)
end
end Go.Proofs.YtjhginendpjimaaGreatDoor
