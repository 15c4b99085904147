import Derived.Test.YtffhccmppdgmfaaGreatDoorD13
import Derived.Test.YtffhccmppdgmfaaGreatDoorD05
import Derived.Test.YtffhccmppdgmfaaGreatDoorD01
import Derived.Deep.LoopGhost
import Derived.Test.YtffhccmppdgmfaaGreatDoorD06
set_option linter.unusedSimpArgs false
set_option linter.unusedVariables false
set_option maxRecDepth 200000
set_option maxHeartbeats 8000000
namespace Go.Proofs.YtffhccmppdgmfaaGreatDoor
section
open Go Go.RowKit Go.OpenShut
abbrev Tok.val (t : Tok) : Value := .agg #[.int .i64 t.kind, .int .i64 t.n, .string t.s, .int .i64 t.pos]
abbrev Tok.obj (t : Tok) : Obj := .cells #[.int .i64 t.kind, .int .i64 t.n, .string t.s, .int .i64 t.pos] 115
def TokAt (W : World) (g : Nat) (t : Tok) : Prop := W.heap[g]? = some (.cells #[.int .i64 t.kind, .int .i64 t.n, .string t.s, .int .i64 t.pos] 115 (0, 0))
theorem TokAt.lt {W : World} {g : Nat} {t : Tok} (h : TokAt W g t) : g < W.heap.size := (Array.getElem?_eq_some_iff.1 h).1
theorem TokAt.cell {W : World} {g : Nat} {t : Tok} (h : TokAt W g t) (j : Nat) {u : Value} (hu : (encTok t)[j]? = some u) : W.cell? ⟨g, j, none⟩ = some u := by
 unfold TokAt at h
 rw [cell_of_row W g j _ _ _ h, <- Array.getElem?_toList]
 exact hu
theorem TokAt.frozen {W : World} {g : Nat} {t : Tok} (h : TokAt W g t) (j : Nat) : W.frozen? ⟨g, j, none⟩ = false := by
 unfold TokAt at h
 simp [World.frozen?, h]
theorem TokAt.keep {W W' : World} {g : Nat} {t : Tok} (h : TokAt W g t) (hk : W'.heap[g]? = W.heap[g]?) : TokAt W' g t := hk.trans h
theorem TokAt.stored {W : World} {g : Nat} {t : Tok} (h : TokAt W g t) (q : Tok) : TokAt ((((W.setCell ⟨g, 0, none⟩ (.int .i64 q.kind)).setCell ⟨g, 1, none⟩ (.int .i64 q.n)).setCell ⟨g, 2, none⟩ (.string q.s)).setCell ⟨g, 3, none⟩ (.int .i64 q.pos)) g q := by
 unfold TokAt at h ⊢
 simp [World.setCell, Array.getElem?_modify, h]
theorem grownBy_setT (W : World) (g : Nat) (q : Tok) : W.grownBy ((((W.setCell ⟨g, 0, none⟩ (.int .i64 q.kind)).setCell ⟨g, 1, none⟩ (.int .i64 q.n)).setCell ⟨g, 2, none⟩ (.string q.s)).setCell ⟨g, 3, none⟩ (.int .i64 q.pos)) (some g) :=
 (((grownBy_set W g 0 _).trans (grownBy_set _ g 1 _)).trans (grownBy_set _ g 2 _)).trans (grownBy_set _ g 3 _)
theorem rd_lens {α : Type} {enc : α -> List Value} {sz B : Nat} {w : World} {v : Value} {xs : List α} (h : Rd w B enc sz v xs) : ∃ p cap, v = .slice p xs.length cap /\ xs.length <= cap /\ cap <= 9223372036854775807 := by
 obtain ⟨p, cap, he, h1, h2, _⟩ := h
 exact ⟨p, cap, he, h1, h2⟩
def Tok.zero : Tok := ⟨0, 0, ⟨#[]⟩, 0⟩
theorem infoTk : (Tryz.prog.info? 115).map (fun i => (i.zero, i.size, i.bytes)) = some (some (.agg #[.int .i64 0, .int .i64 0, .string ByteArray.empty, .int .i64 0]), 4, 40) := by kernel_rfl
theorem slTk : SlT Tryz.prog 104 115 4 40 := SlT.mk Tryz.underlying104 infoTk rfl
def RdrAt (W : World) (g : Nat) (v : Value) (en pa : Nat) : Prop := W.heap[g]? = some (.cells #[v, .int .i64 en, .int .i64 pa] 112 (0, 0))
theorem RdrAt.lt {W : World} {g en pa : Nat} {v : Value} (h : RdrAt W g v en pa) : g < W.heap.size := (Array.getElem?_eq_some_iff.1 h).1
theorem RdrAt.cell {W : World} {g en pa : Nat} {v : Value} (h : RdrAt W g v en pa) (j : Nat) {u : Value} (hu : [v, Value.int .i64 en, .int .i64 pa][j]? = some u) : W.cell? ⟨g, j, none⟩ = some u := by
 unfold RdrAt at h
 rw [cell_of_row W g j _ _ _ h, <- Array.getElem?_toList]
 exact hu
theorem RdrAt.frozen {W : World} {g en pa : Nat} {v : Value} (h : RdrAt W g v en pa) (j : Nat) : W.frozen? ⟨g, j, none⟩ = false := by
 unfold RdrAt at h
 simp [World.frozen?, h]
theorem RdrAt.keep {W W' : World} {g en pa : Nat} {v : Value} (h : RdrAt W g v en pa) (hk : W'.heap[g]? = W.heap[g]?) : RdrAt W' g v en pa := hk.trans h
theorem RdrAt.set0 {W : World} {g en pa : Nat} {v : Value} (h : RdrAt W g v en pa) (u : Value) : RdrAt (W.setCell ⟨g, 0, none⟩ u) g u en pa := by
 unfold RdrAt at h ⊢
 simp [World.setCell, Array.getElem?_modify, h]
theorem RdrAt.set2 {W : World} {g en pa : Nat} {v : Value} (h : RdrAt W g v en pa) (k : Nat) : RdrAt (W.setCell ⟨g, 2, none⟩ (.int .i64 k)) g v en k := by
 unfold RdrAt at h ⊢
 simp [World.setCell, Array.getElem?_modify, h]
structure RdS (W : World) (g : Nat) (ts : List Tok) (en pa : Nat) : Prop where
 ex : ∃ p n c, RdrAt W g (.slice p n c) en pa /\ Rd W g encTok 4 (.slice p n c) ts
theorem RdS.lt {W : World} {g en pa : Nat} {ts : List Tok} (h : RdS W g ts en pa) : g < W.heap.size := by
 obtain ⟨p, n, c, h1, _⟩ := h.ex
 exact h1.lt
theorem below_of {B : Nat} {w w' : World} {row : Option Nat} (h : w.grownBy w' row) (hb : B <= w.heap.size) (hr : ∀ k, row = some k -> B <= k) : Below B w w' := (Below.refl B w).grown h hb hr
theorem RdS.kept {W W' : World} {g en pa : Nat} {ts : List Tok} {row : Option Nat} (h : RdS W g ts en pa) (hg : W.grownBy W' row) (hr : ∀ k, row = some k -> g < k) : RdS W' g ts en pa := by
 have hl := h.lt
 obtain ⟨p, n, c, h1, h2⟩ := h.ex
 exact ⟨p, n, c, h1.keep (hg.block g hl (fun e => by have := hr g e.symm; omega)), h2.below (below_of hg (by omega) (fun k e => by have := hr k e; omega)) (Nat.le_refl _)⟩
theorem RdS.len {W : World} {g en pa : Nat} {ts : List Tok} (h : RdS W g ts en pa) : ∃ p c, RdrAt W g (.slice p ts.length c) en pa /\ Rd W g encTok 4 (.slice p ts.length c) ts /\ ts.length <= 9223372036854775807 := by
 obtain ⟨p, n, c, h1, h2⟩ := h.ex
 have hl := rd_nlen h2
 obtain ⟨p', c', hv, h3, h4⟩ := rd_lens h2
 simp only [Value.slice.injEq] at hv
 obtain ⟨rfl, rfl, rfl⟩ := hv
 exact ⟨p, c, h1, h2, by omega⟩
theorem is_any (t : Tok) (c : UInt8) (w : World) (b : Bool) (hb : isM t c = b) : Calls Tryz.prog 106 #[t.val, .string ⟨#[c]⟩] w fun e w' => e = .returned (.bool b) /\ Below w.heap.size w w' := by
 subst hb
 unfold isM
 obtain ⟨k, n, s, p⟩ := t
 dsimp only [Tok.val]
 by_cases h1 : k = 1
 ·subst h1
  by_cases h2 : s = ⟨#[c]⟩
  ·subst h2
   go_enter Tryz.func106, Tryz.ntmps106
   go_wp2_with fail
   go_ret
   exact ⟨by simp, (Below.refl _ _).alloc (Nat.le_refl _) _⟩
  ·have hq : (s.toList == (⟨#[c]⟩ : ByteArray).toList) = false := by rw [str_beq]; simpa using h2
   have HR : Hid ((decide ((1 : Int) = 1) && decide (s = ⟨#[c]⟩)) = false) := by simp [Hid, h2]
   rw [HR.out]
   clear h2
   obtain ⟨m, hm⟩ : ∃ m : ByteArray, ⟨#[c]⟩ = m := ⟨_, rfl⟩
   rw [hm] at hq ⊢
   clear HR hm
   go_enter Tryz.func106, Tryz.ntmps106
   go_wp2_with fail
   go_ret
   exact ⟨rfl, (Below.refl _ _).alloc (Nat.le_refl _) _⟩
 ·have HR : Hid ((decide (k = 1) && decide (s = ⟨#[c]⟩)) = false) := by simp [Hid, h1]
  rw [HR.out]
  have hq : (k == 1) = false := by simpa using h1
  clear h1 HR
  go_enter Tryz.func106, Tryz.ntmps106
  go_wp2_with fail
  go_ret
  exact ⟨rfl, (Below.refl _ _).alloc (Nat.le_refl _) _⟩
theorem _root_.Go.World.grownBy.keep_none {w w' : World} {row : Option Nat} (h : w.grownBy w' row) (g : Nat) (hg : g < w.heap.size) (hne : row ≠ some g := by (first | assumption | simp)) : w'.heap[g]? = w.heap[g]? := h.block g hg (fun e => hne e.symm)
theorem _root_.Go.World.grownBy.keep_some {w w1 w2 : World} {g : Nat} (h : w.grownBy w1 none) (h2 : w1.grownBy w2 (some g)) : w.grownBy w2 (some g) :=
 ⟨h2.os.trans h.os, h2.tape.trans h.tape, h2.output.trans h.output, Nat.le_trans h.size h2.size, fun k hk hne => (h2.block k (Nat.lt_of_lt_of_le hk h.size) hne).trans (h.block k hk (by simp))⟩
theorem _root_.Go.World.grownBy.new_row {w w1 w2 : World} {row : Option Nat} {x : Nat} (h : w.grownBy w1 row) (h2 : w1.grownBy w2 (some x)) (hx : w.heap.size <= x) : w.grownBy w2 row :=
 ⟨h2.os.trans h.os, h2.tape.trans h.tape, h2.output.trans h.output, Nat.le_trans h.size h2.size, fun k hk hne => (h2.block k (Nat.lt_of_lt_of_le hk h.size) (fun e => by cases e; omega)).trans (h.block k hk hne)⟩
def NxtRet (w : World) (g : Nat) (t : Tok) (ts : List Tok) (en pa : Nat) (e : Ending) (w' : World) : Prop := e = .returned t.val /\ RdS w' g ts en pa /\ w.grownBy w' (some g)
theorem next_any (w : World) (g en pa : Nat) (t : Tok) (ts : List Tok) (h : RdS w g (t :: ts) en pa) : Calls Tryz.prog 79 #[.pointer (some ⟨g, 0, none⟩)] w (NxtRet w g t ts en pa) := by
 obtain ⟨p, c, h1, h2, h3⟩ := h.len
 have hgl := h1.lt
 obtain ⟨N, hN⟩ : ∃ N, (t :: ts).length = N := ⟨_, rfl⟩
 rw [hN] at h1 h2 h3
 have hN1 : 1 <= N := by rw [<- hN]; simp
 have hr0 := h2
 obtain ⟨v1, hrun, hr1⟩ := slice_l slTk hr0 1 hN1
 obtain ⟨q1, n1, c1, rfl⟩ : ∃ q n c, v1 = Value.slice q n c := (by obtain ⟨p, c, hv, _, _⟩ := rd_lens hr1; exact ⟨p, _, c, hv⟩)
 rw [List.drop_one, List.tail_cons] at hr1
 obtain ⟨b, o, rfl, hb, hc0⟩ := rd_at' (k := 0) h2 (x := t) rfl
 rw [Nat.zero_mul, Nat.add_zero] at hc0
 obtain ⟨tk, tn, tS, tp⟩ := t
 have f0 : w.cell? ⟨b, o, none⟩ = some (.int .i64 tk) := hc0 0 _ rfl
 have f1 : w.cell? ⟨b, o + 1, none⟩ = some (.int .i64 tn) := hc0 1 _ rfl
 have f2 : w.cell? ⟨b, o + 2, none⟩ = some (.string tS) := hc0 2 _ rfl
 have f3 : w.cell? ⟨b, o + 3, none⟩ = some (.int .i64 tp) := hc0 3 _ rfl
 have c0 := h1.cell 0 rfl
 have z0 := h1.frozen 0
 have e0 : ((N : Int) == 0) = false := by simp; omega
 have e1 : (0 : Int) < (N : Int) := by omega
 have HR1 := Lib.hid hr1
 have H1 := Lib.hid h1
 clear hr0 hr1 h2 hc0 h1 hN h
 have hg0 := World.grownBy_alloc w (.cells #[.int .i64 0, .int .i64 0, .string ⟨#[]⟩, .int .i64 0] 115) none
 have hT0 : TokAt (w.alloc (.cells #[.int .i64 0, .int .i64 0, .string ⟨#[]⟩, .int .i64 0] 115)) w.heap.size Tok.zero := heap_alloc_at rfl
 have hs0 : (w.alloc (.cells #[.int .i64 0, .int .i64 0, .string ⟨#[]⟩, .int .i64 0] 115)).heap.size = w.heap.size + 1 := by simp
 have k0 : ∀ b o, b < w.heap.size -> (w.alloc (.cells #[.int .i64 0, .int .i64 0, .string ⟨#[]⟩, .int .i64 0] 115)).cell? ⟨b, o, none⟩ = w.cell? ⟨b, o, none⟩ := fun b o hb => ((Below.refl w.heap.size w).alloc (Nat.le_refl _) _).cell (p := ⟨b, o, none⟩) hb
 go_enter Tryz.func79, Tryz.ntmps79
 go_upto_region 1 with fail
 obtain ⟨W0, hW0⟩ : ∃ W0, w.alloc (.cells #[.int .i64 0, .int .i64 0, .string ⟨#[]⟩, .int .i64 0] 115) = W0 := ⟨_, rfl⟩
 rw [hW0] at hg0 hT0 hs0 k0
 try rw [hW0]
 clear hW0
 have p0 := (k0 g 0 hgl).trans c0
 have g0 := (k0 b o (by omega)).trans f0
 have g1 := (k0 b (o + 1) (by omega)).trans f1
 have g2 := (k0 b (o + 2) (by omega)).trans f2
 have g3 := (k0 b (o + 3) (by omega)).trans f3
 have hrun1 : ∀ W, (Instr.sliceAt 104 (.slice (some ⟨b, o, none⟩) N c) (some (.int .i64 1)) none none).run Tryz.prog W = .ok (.slice q1 n1 c1) W := hrun
 have HG0 := Lib.hid hg0
 have HT0 := Lib.hid hT0
 have HS0 := Lib.hid hs0
 have hgW : g < W0.heap.size := by omega
 clear c0 f0 f1 f2 f3 k0 hrun hg0 hT0 hs0 z0
 have hg1 := World.grownBy_alloc W0 (.cells #[.int .i64 tk, .int .i64 tn, .string tS, .int .i64 tp] 115) none
 have hT1 : TokAt (W0.alloc (.cells #[.int .i64 tk, .int .i64 tn, .string tS, .int .i64 tp] 115)) W0.heap.size ⟨tk, tn, tS, tp⟩ := heap_alloc_at rfl
 have hT2 : TokAt (W0.alloc (.cells #[.int .i64 tk, .int .i64 tn, .string tS, .int .i64 tp] 115)) w.heap.size Tok.zero := HT0.out.keep (hg1.keep_none _ HT0.out.lt)
 have hR1 : RdrAt (W0.alloc (.cells #[.int .i64 tk, .int .i64 tn, .string tS, .int .i64 tp] 115)) g (.slice (some ⟨b, o, none⟩) N c) en pa := (H1.out.keep (HG0.out.keep_none g (by omega))).keep (hg1.keep_none g hgW)
 go_upto_region 4 with fail
 have hz1 : (W0.alloc (.cells #[.int .i64 tk, .int .i64 tn, .string tS, .int .i64 tp] 115)).heap.size = w.heap.size + 2 := by have := HS0.out; simp; omega
 have hg1' := HG0.out.trans hg1
 obtain ⟨q0, hq0⟩ : ∃ q, W0.heap.size = q := ⟨_, rfl⟩
 have hqn : g ≠ q0 /\ w.heap.size ≠ q0 /\ g ≠ w.heap.size := by have := HS0.out; omega
 obtain ⟨W1, hW1⟩ : ∃ W1, W0.alloc (.cells #[.int .i64 tk, .int .i64 tn, .string tS, .int .i64 tp] 115) = W1 := ⟨_, rfl⟩
 rw [hW1] at hT1 hT2 hR1 hz1 hg1'
 rw [hq0] at hT1
 try rw [hW1]
 try rw [hq0]
 clear hg1 hW1 hq0 p0 g0 g1 g2 g3 HT0
 have p0 := hR1.cell 0 rfl
 have z0 := hR1.frozen 0
 have hR2 := hR1.set0 (.slice q1 n1 c1)
 have hg2 := grownBy_set W1 g 0 (.slice q1 n1 c1)
 have hT3 := hT1.keep (hg2.block q0 hT1.lt (by simp; omega))
 have hT4 := hT2.keep (hg2.block w.heap.size hT2.lt (by simp; omega))
 go_upto_region 5 with fail
 obtain ⟨W2, hW2⟩ : ∃ W2, W1.setCell ⟨g, 0, none⟩ (.slice q1 n1 c1) = W2 := ⟨_, rfl⟩
 rw [hW2] at hR2 hg2 hT3 hT4
 try rw [hW2]
 clear hW2 p0 z0 hrun1
 have a0 := hT3.cell 0 rfl
 have a1 := hT3.cell 1 rfl
 have a2 := hT3.cell 2 rfl
 have a3 := hT3.cell 3 rfl
 have b0 := hT4.cell 0 rfl
 have b1 := hT4.cell 1 rfl
 have b2 := hT4.cell 2 rfl
 have b3 := hT4.cell 3 rfl
 have y0 := hT4.frozen 0
 have y1 := hT4.frozen 1
 have y2 := hT4.frozen 2
 have y3 := hT4.frozen 3
 dsimp only [Tok.zero] at a0 a1 a2 a3 b0 b1 b2 b3
 have HR2 := Lib.hid hR2
 have HG2 := Lib.hid (hg1'.keep_some hg2)
 have HZ1 := Lib.hid hz1
 have HS2 := Lib.hid hg2.size
 clear hT1 hT2 hT3 hT4 hR1 hg1' hg2 hR2 hz1
 go_wp2_with fail
 refine bodyPost_ret (v := Tok.val ⟨tk, tn, tS, tp⟩) (by simp [results, Tryz.results79, go_sem, b0, b1, b2, b3]) rfl ⟨rfl, ?_, ?_⟩
 ·have hg3 := grownBy_setT W2 w.heap.size ⟨tk, tn, tS, tp⟩
  obtain ⟨p', n', c', h1, h2⟩ := (⟨_, _, _, HR2.out, (HR1.out.below (below_of HG2.out (by omega) (fun k e => by cases e; exact Nat.le_refl _)) (Nat.le_refl _))⟩ : ∃ p n c, RdrAt W2 g (.slice p n c) en pa /\ Rd W2 g encTok 4 (.slice p n c) ts)
  exact RdS.kept ⟨p', n', c', h1, h2⟩ hg3 (fun k e => by cases e; exact hgl)
 ·exact HG2.out.new_row (grownBy_setT W2 w.heap.size ⟨tk, tn, tS, tp⟩) (Nat.le_refl _)
theorem peek_any (w : World) (g en pa : Nat) (t : Tok) (ts : List Tok) (c : UInt8) (b : Bool) (h : RdS w g (t :: ts) en pa) (hb : isM t c = b) : Calls Tryz.prog 142 #[.pointer (some ⟨g, 0, none⟩), .string ⟨#[c]⟩] w fun e w' => e = .returned (.bool b) /\ Below w.heap.size w w' := by
 have HI : Hid (∀ W, Calls Tryz.prog 106 #[t.val, .string ⟨#[c]⟩] W fun e w' => e = .returned (.bool b) /\ Below W.heap.size W w') := fun W => is_any t c W b hb
 obtain ⟨p, cp, h1, h2, h3⟩ := h.len
 have hgl := h1.lt
 obtain ⟨N, hN⟩ : ∃ N, (t :: ts).length = N := ⟨_, rfl⟩
 rw [hN] at h1 h2 h3
 have hN1 : 1 <= N := by rw [<- hN]; simp
 obtain ⟨bb, o, rfl, hbb, hc0⟩ := rd_at' (k := 0) h2 (x := t) rfl
 rw [Nat.zero_mul, Nat.add_zero] at hc0
 obtain ⟨tk, tn, tS, tp⟩ := t
 have f0 : w.cell? ⟨bb, o, none⟩ = some (.int .i64 tk) := hc0 0 _ rfl
 have f1 : w.cell? ⟨bb, o + 1, none⟩ = some (.int .i64 tn) := hc0 1 _ rfl
 have f2 : w.cell? ⟨bb, o + 2, none⟩ = some (.string tS) := hc0 2 _ rfl
 have f3 : w.cell? ⟨bb, o + 3, none⟩ = some (.int .i64 tp) := hc0 3 _ rfl
 have c0 := h1.cell 0 rfl
 have e0 : decide (0 < N) = true := by simp; omega
 have e1 : (0 : Int) < (N : Int) := by omega
 have e2 : 0 < N := hN1
 clear h1 h2 hc0 hN h hb
 obtain ⟨m, hm⟩ : ∃ m : ByteArray, ⟨#[c]⟩ = m := ⟨_, rfl⟩
 rw [hm] at HI ⊢
 clear hm
 go_enter Tryz.func142, Tryz.ntmps142
 go_wp2_with (go_at_call 106; refine (HI.out _).mono ?_; rintro e w1 ⟨rfl, hb1⟩)
 go_ret
 exact ⟨rfl, hb1⟩
theorem RdS.cell2 {W : World} {g en pa : Nat} {ts : List Tok} (h : RdS W g ts en (pa + 1)) : W.cell? ⟨g, 2, none⟩ = some (.int .i64 ((pa : Int) + 1)) := by
 obtain ⟨p, n, c, h1, _⟩ := h.ex
 exact h1.cell 2 rfl
theorem lit_null : (⟨#[110, 117, 108, 108]⟩ : ByteArray).toList = [110, 117, 108, 108] := by rw [ByteArray.toList_eq]
theorem lit_true : (⟨#[116, 114, 117, 101]⟩ : ByteArray).toList = [116, 114, 117, 101] := by rw [ByteArray.toList_eq]
def ValR (w : World) (g : Nat) (v : JV) (ts : List Tok) (en pa : Nat) (e : Ending) (w' : World) : Prop := ∃ r : RV, e = .returned (RV.val r) /\ TreeS w' (Fresh w w') v r /\ RdS w' g ts en pa /\ w.grownBy w' (some g)
theorem VAt.setK {W : World} {g : Nat} {r : RV} (h : VAt W g r) (k : Int) : VAt (W.setCell ⟨g, 0, none⟩ (.int .i64 k)) g { r with k := k } := by
 unfold VAt at h ⊢
 simp [World.setCell, Array.getElem?_modify, h]
theorem VAt.setN {W : World} {g : Nat} {r : RV} (h : VAt W g r) (k : Int) : VAt (W.setCell ⟨g, 1, none⟩ (.int .i64 k)) g { r with n := k } := by
 unfold VAt at h ⊢
 simp [World.setCell, Array.getElem?_modify, h]
theorem VAt.setLs {W : World} {g : Nat} {r : RV} (h : VAt W g r) (p : Option Addr) (n c : Nat) : VAt (W.setCell ⟨g, 3, none⟩ (.slice p n c)) g { r with pl := p, nl := n, cl := c } := by
 unfold VAt at h ⊢
 simp [World.setCell, Array.getElem?_modify, h]
theorem VAt.setMs {W : World} {g : Nat} {r : RV} (h : VAt W g r) (p : Option Addr) (n c : Nat) : VAt (W.setCell ⟨g, 4, none⟩ (.slice p n c)) g { r with pm := p, nm := n, cm := c } := by
 unfold VAt at h ⊢
 simp [World.setCell, Array.getElem?_modify, h]
theorem VAt.keep {W W' : World} {g : Nat} {r : RV} (h : VAt W g r) (hk : W'.heap[g]? = W.heap[g]?) : VAt W' g r := hk.trans h
theorem RdrAt.set2' {W : World} {g en pa : Nat} {v : Value} (h : RdrAt W g v en pa) (x : Int) (k : Nat) (hx : x = k) : RdrAt (W.setCell ⟨g, 2, none⟩ (.int .i64 x)) g v en k := by subst hx; exact h.set2 k
def leafOf (t : Tok) : Option JV := if t.kind = 4 then some (.mk 4 0 t.s [] []) else if t.kind = 2 then if t.s = wNull then some (bareJ 1 0) else if t.s = wTrue then some (bareJ 2 1) else some (bareJ 2 0) else if t.kind = 3 then some (bareJ 3 t.n) else none
theorem leaf_cases {t : Tok} {v : JV} (h : leafOf t = some v) : (t.kind = 4 /\ v = .mk 4 0 t.s [] []) \/ (t.kind = 2 /\ t.s = wNull /\ v = .mk 1 0 ⟨#[]⟩ [] []) \/ (t.kind = 2 /\ t.s = wTrue /\ v = .mk 2 1 ⟨#[]⟩ [] []) \/ (t.kind = 2 /\ t.s ≠ wNull /\ t.s ≠ wTrue /\ v = .mk 2 0 ⟨#[]⟩ [] []) \/ (t.kind = 3 /\ v = .mk 3 t.n ⟨#[]⟩ [] []) := by
 unfold leafOf at h
 split at h
 ·cases h; exact .inl ⟨‹_›, rfl⟩
 ·split at h
  ·split at h
   ·cases h; exact .inr (.inl ⟨‹_›, ‹_›, rfl⟩)
   ·split at h
    ·cases h; exact .inr (.inr (.inl ⟨‹_›, ‹_›, rfl⟩))
    ·cases h; exact .inr (.inr (.inr (.inl ⟨‹_›, ‹_›, ‹_›, rfl⟩)))
  ·split at h
   ·cases h; exact .inr (.inr (.inr (.inr ⟨‹_›, rfl⟩)))
   ·cases h
theorem value_leaf (w : World) (g en pa deep : Nat) (t : Tok) (ts : List Tok) (v : JV) (h : RdS w g ts en pa) (hd : deep <= 16) (hp : pa < 8192) (hv : leafOf t = some v) :
 Calls Tryz.prog 78 #[.pointer (some ⟨g, 0, none⟩), t.val, .int .i64 deep] w (ValR w g v ts en (pa + 1)) := by
 have hgl := h.lt
 have hlc := leaf_cases hv
 clear hv
 have hg0 := ((World.grownBy_alloc w t.obj none).trans (World.grownBy_alloc _ (.cells #[.int .i64 0, .int .i64 0, .string ⟨#[]⟩, .slice none 0 0, .slice none 0 0] 25) none)).trans (World.grownBy_alloc _ (.cells #[.int .i64 0, .int .i64 0, .string ⟨#[]⟩, .slice none 0 0, .slice none 0 0] 25) none)
 have hT0 : TokAt (((w.alloc t.obj).alloc (.cells #[.int .i64 0, .int .i64 0, .string ⟨#[]⟩, .slice none 0 0, .slice none 0 0] 25)).alloc (.cells #[.int .i64 0, .int .i64 0, .string ⟨#[]⟩, .slice none 0 0, .slice none 0 0] 25)) w.heap.size t := heap_alloc_lt (by simp; omega) (heap_alloc_lt (by simp) (heap_alloc_at rfl))
 have hV1 : VAt (((w.alloc t.obj).alloc (.cells #[.int .i64 0, .int .i64 0, .string ⟨#[]⟩, .slice none 0 0, .slice none 0 0] 25)).alloc (.cells #[.int .i64 0, .int .i64 0, .string ⟨#[]⟩, .slice none 0 0, .slice none 0 0] 25)) (w.heap.size + 1) RV.zero := heap_alloc_lt (by simp) (heap_alloc_at (by simp))
 have hV2 : VAt (((w.alloc t.obj).alloc (.cells #[.int .i64 0, .int .i64 0, .string ⟨#[]⟩, .slice none 0 0, .slice none 0 0] 25)).alloc (.cells #[.int .i64 0, .int .i64 0, .string ⟨#[]⟩, .slice none 0 0, .slice none 0 0] 25)) (w.heap.size + 1 + 1) RV.zero := heap_alloc_at (by simp)
 have hs0 : (((w.alloc t.obj).alloc (.cells #[.int .i64 0, .int .i64 0, .string ⟨#[]⟩, .slice none 0 0, .slice none 0 0] 25)).alloc (.cells #[.int .i64 0, .int .i64 0, .string ⟨#[]⟩, .slice none 0 0, .slice none 0 0] 25)).heap.size = w.heap.size + 3 := by simp
 have hR0 := h.kept hg0 (fun k e => by cases e)
 obtain ⟨tk, tn, tS, tp⟩ := t
 dsimp only [Tok.val, Tok.obj] at *
 clear h
 have d1 : ¬ (16 < (deep : Int)) := by omega
 have d2 : ¬ (16 < deep) := by omega
 have d3 : (deep : Int) <= 16 := by omega
 go_enter Tryz.func78, Tryz.ntmps78
 go_upto_region 3 with fail
 obtain ⟨W0, hW0⟩ : ∃ W0, ((w.alloc (.cells #[.int .i64 tk, .int .i64 tn, .string tS, .int .i64 tp] 115)).alloc (.cells #[.int .i64 0, .int .i64 0, .string ⟨#[]⟩, .slice none 0 0, .slice none 0 0] 25)).alloc (.cells #[.int .i64 0, .int .i64 0, .string ⟨#[]⟩, .slice none 0 0, .slice none 0 0] 25) = W0 := ⟨_, rfl⟩
 rw [hW0] at hg0 hT0 hV1 hV2 hs0 hR0
 try rw [hW0]
 clear hW0
 have a0 := hT0.cell 0 rfl
 have a1 := hT0.cell 1 rfl
 have a2 := hT0.cell 2 rfl
 obtain ⟨v0, v1, v2, v3, v4⟩ := hV2.cells5
 have y0 := hV2.frozen 0
 have y1 := hV2.frozen 1
 have y2 := hV2.frozen 2
 have y3 := hV2.frozen 3
 have y4 := hV2.frozen 4
 dsimp only [RV.zero] at v0 v1 v2 v3 v4
 have HG0 := Lib.hid hg0
 have HV1 := Lib.hid hV1
 have HV2 := Lib.hid hV2
 have HR0 := Lib.hid hR0
 have HS0 := Lib.hid hs0
 clear hg0 hT0 hV1 hV2 hR0 hs0
 have KEY : ∀ (k n : Int) (s : ByteArray) (W1 : World), VAt W1 (w.heap.size + 1 + 1) ⟨k, n, s, none, 0, 0, none, 0, 0⟩ -> W0.grownBy W1 (some (w.heap.size + 1 + 1)) -> (VAt W1 (w.heap.size + 1) RV.zero /\ RdS W1 g ts en pa /\ w.grownBy W1 none) := by
  intro k n s W1 h1 h2
  have hs := HS0.out
  exact ⟨HV1.out.keep (h2.block _ HV1.out.lt (by simp)), HR0.out.kept h2 (fun k e => by cases e; omega), HG0.out.new_row h2 (by omega)⟩
 have HK := Lib.hid KEY
 clear KEY
 have FIN : ∀ (k n : Int) (s : ByteArray) (W1 : World), VAt W1 (w.heap.size + 1) RV.zero -> RdS W1 g ts en (pa + 1) -> w.grownBy W1 (some g) -> ValR w g (.mk k n s [] []) ts en (pa + 1) (.returned (RV.val ⟨k, n, s, none, 0, 0, none, 0, 0⟩)) (((((W1.setCell ⟨(w.heap.size + 1), 0, none⟩ (.int .i64 (⟨k, n, s, none, 0, 0, none, 0, 0⟩ : RV).k)).setCell ⟨(w.heap.size + 1), 1, none⟩ (.int .i64 (⟨k, n, s, none, 0, 0, none, 0, 0⟩ : RV).n)).setCell ⟨(w.heap.size + 1), 2, none⟩ (.string (⟨k, n, s, none, 0, 0, none, 0, 0⟩ : RV).s)).setCell ⟨(w.heap.size + 1), 3, none⟩ (.slice (⟨k, n, s, none, 0, 0, none, 0, 0⟩ : RV).pl (⟨k, n, s, none, 0, 0, none, 0, 0⟩ : RV).nl (⟨k, n, s, none, 0, 0, none, 0, 0⟩ : RV).cl)).setCell ⟨(w.heap.size + 1), 4, none⟩ (.slice (⟨k, n, s, none, 0, 0, none, 0, 0⟩ : RV).pm (⟨k, n, s, none, 0, 0, none, 0, 0⟩ : RV).nm (⟨k, n, s, none, 0, 0, none, 0, 0⟩ : RV).cm)) := by
  intro k n s W1 h1 h2 h3
  have hg := grownBy_set5 W1 (w.heap.size + 1) ⟨k, n, s, none, 0, 0, none, 0, 0⟩
  exact ⟨⟨k, n, s, none, 0, 0, none, 0, 0⟩, rfl, TreeS.leaf _ _ _ _ _, h2.kept hg (fun k e => by cases e; omega), h3.new_row hg (by omega)⟩
 have HF := Lib.hid FIN
 clear FIN
 rcases hlc with ⟨rfl, rfl⟩ | ⟨rfl, hw, rfl⟩ | ⟨rfl, hw, rfl⟩ | ⟨rfl, n1, n2, rfl⟩ | ⟨rfl, rfl⟩
 ·go_upto_region 17 with fail
  have hv : VAt (((((W0.setCell ⟨w.heap.size + 1 + 1, 0, none⟩ (.int .i64 4)).setCell ⟨w.heap.size + 1 + 1, 1, none⟩ (.int .i64 0)).setCell ⟨w.heap.size + 1 + 1, 2, none⟩ (.string tS)).setCell ⟨w.heap.size + 1 + 1, 3, none⟩ (.slice none 0 0)).setCell ⟨w.heap.size + 1 + 1, 4, none⟩ (.slice none 0 0)) (w.heap.size + 1 + 1) ⟨4, 0, tS, none, 0, 0, none, 0, 0⟩ := HV2.out.stored ⟨4, 0, tS, none, 0, 0, none, 0, 0⟩
  have hg : W0.grownBy (((((W0.setCell ⟨w.heap.size + 1 + 1, 0, none⟩ (.int .i64 4)).setCell ⟨w.heap.size + 1 + 1, 1, none⟩ (.int .i64 0)).setCell ⟨w.heap.size + 1 + 1, 2, none⟩ (.string tS)).setCell ⟨w.heap.size + 1 + 1, 3, none⟩ (.slice none 0 0)).setCell ⟨w.heap.size + 1 + 1, 4, none⟩ (.slice none 0 0)) (some (w.heap.size + 1 + 1)) := grownBy_set5 W0 _ ⟨4, 0, tS, none, 0, 0, none, 0, 0⟩
  obtain ⟨W1, hW1⟩ : ∃ W1, (((((W0.setCell ⟨w.heap.size + 1 + 1, 0, none⟩ (.int .i64 4)).setCell ⟨w.heap.size + 1 + 1, 1, none⟩ (.int .i64 0)).setCell ⟨w.heap.size + 1 + 1, 2, none⟩ (.string tS)).setCell ⟨w.heap.size + 1 + 1, 3, none⟩ (.slice none 0 0)).setCell ⟨w.heap.size + 1 + 1, 4, none⟩ (.slice none 0 0)) = W1 := ⟨_, rfl⟩
  rw [hW1] at hv hg
  try rw [hW1]
  clear hW1
  obtain ⟨h1, h2, h3⟩ := HK.out 4 0 tS W1 hv hg
  obtain ⟨p, nn, c, hr, hrd⟩ := h2.ex
  have c2 := hr.cell 2 rfl
  have z2 := hr.frozen 2
  have hgx := grownBy_set W1 g 2 (.int .i64 ((pa : Int) + 1))
  have hR3 : RdS (W1.setCell ⟨g, 2, none⟩ (.int .i64 ((pa : Int) + 1))) g ts en (pa + 1) := ⟨p, nn, c, hr.set2' _ _ (by omega), hrd.below (below_of hgx (by have := hr.lt; omega) (fun k e => by cases e; exact Nat.le_refl _)) (Nat.le_refl _)⟩
  have hV3 := h1.keep (hgx.block _ h1.lt (by simp; omega))
  have hV4 := hv.keep (hgx.block _ hv.lt (by simp; omega))
  have hG3 := h3.keep_some hgx
  go_upto_region 20 with fail
  have c3 := hR3.cell2
  obtain ⟨W2, hW2⟩ : ∃ W2, W1.setCell ⟨g, 2, none⟩ (.int .i64 ((pa : Int) + 1)) = W2 := ⟨_, rfl⟩
  rw [hW2] at hR3 hV3 hV4 hG3 c3
  try rw [hW2]
  clear hW2 c2 z2 v0 v1 v2 v3 v4 y0 y1 y2 y3 y4 a0 a1 a2 hgx hr hrd h1 h2 h3 hv hg
  obtain ⟨v0, v1, v2, v3, v4⟩ := hV4.cells5
  obtain ⟨z0, z1, z2, z3, z4⟩ := hV3.cells5
  have y0 := hV3.frozen 0
  have y1 := hV3.frozen 1
  have y2 := hV3.frozen 2
  have y3 := hV3.frozen 3
  have y4 := hV3.frozen 4
  dsimp only [RV.zero] at v0 v1 v2 v3 v4 z0 z1 z2 z3 z4
  have HR3 := Lib.hid hR3
  have HV3 := Lib.hid hV3
  have HG3 := Lib.hid hG3
  clear hR3 hV3 hV4 hG3
  go_wp2_with fail
  exact bodyPost_ret (v := RV.val ⟨4, 0, tS, none, 0, 0, none, 0, 0⟩) (by simp [results, Tryz.results78, go_sem, z0, z1, z2, z3, z4]) rfl (HF.out 4 0 tS W2 HV3.out HR3.out HG3.out)
 ·obtain rfl : tS = ⟨#[110, 117, 108, 108]⟩ := hw
  go_upto_region 17 with fail
  have hv : VAt (W0.setCell ⟨w.heap.size + 1 + 1, 0, none⟩ (.int .i64 1)) (w.heap.size + 1 + 1) ⟨1, 0, ⟨#[]⟩, none, 0, 0, none, 0, 0⟩ := HV2.out.setK 1
  have hg : W0.grownBy (W0.setCell ⟨w.heap.size + 1 + 1, 0, none⟩ (.int .i64 1)) (some (w.heap.size + 1 + 1)) := grownBy_set _ _ _ _
  obtain ⟨W1, hW1⟩ : ∃ W1, (W0.setCell ⟨w.heap.size + 1 + 1, 0, none⟩ (.int .i64 1)) = W1 := ⟨_, rfl⟩
  rw [hW1] at hv hg
  try rw [hW1]
  clear hW1
  obtain ⟨h1, h2, h3⟩ := HK.out 1 0 ⟨#[]⟩ W1 hv hg
  obtain ⟨p, nn, c, hr, hrd⟩ := h2.ex
  have c2 := hr.cell 2 rfl
  have z2 := hr.frozen 2
  have hgx := grownBy_set W1 g 2 (.int .i64 ((pa : Int) + 1))
  have hR3 : RdS (W1.setCell ⟨g, 2, none⟩ (.int .i64 ((pa : Int) + 1))) g ts en (pa + 1) := ⟨p, nn, c, hr.set2' _ _ (by omega), hrd.below (below_of hgx (by have := hr.lt; omega) (fun k e => by cases e; exact Nat.le_refl _)) (Nat.le_refl _)⟩
  have hV3 := h1.keep (hgx.block _ h1.lt (by simp; omega))
  have hV4 := hv.keep (hgx.block _ hv.lt (by simp; omega))
  have hG3 := h3.keep_some hgx
  go_upto_region 20 with fail
  have c3 := hR3.cell2
  obtain ⟨W2, hW2⟩ : ∃ W2, W1.setCell ⟨g, 2, none⟩ (.int .i64 ((pa : Int) + 1)) = W2 := ⟨_, rfl⟩
  rw [hW2] at hR3 hV3 hV4 hG3 c3
  try rw [hW2]
  clear hW2 c2 z2 v0 v1 v2 v3 v4 y0 y1 y2 y3 y4 a0 a1 a2 hgx hr hrd h1 h2 h3 hv hg
  obtain ⟨v0, v1, v2, v3, v4⟩ := hV4.cells5
  obtain ⟨z0, z1, z2, z3, z4⟩ := hV3.cells5
  have y0 := hV3.frozen 0
  have y1 := hV3.frozen 1
  have y2 := hV3.frozen 2
  have y3 := hV3.frozen 3
  have y4 := hV3.frozen 4
  dsimp only [RV.zero] at v0 v1 v2 v3 v4 z0 z1 z2 z3 z4
  have HR3 := Lib.hid hR3
  have HV3 := Lib.hid hV3
  have HG3 := Lib.hid hG3
  clear hR3 hV3 hV4 hG3
  go_wp2_with fail
  exact bodyPost_ret (v := RV.val ⟨1, 0, ⟨#[]⟩, none, 0, 0, none, 0, 0⟩) (by simp [results, Tryz.results78, go_sem, z0, z1, z2, z3, z4]) rfl (HF.out 1 0 ⟨#[]⟩ W2 HV3.out HR3.out HG3.out)
 ·obtain rfl : tS = ⟨#[116, 114, 117, 101]⟩ := hw
  go_upto_region 17 with fail
  have hv : VAt ((W0.setCell ⟨w.heap.size + 1 + 1, 0, none⟩ (.int .i64 2)).setCell ⟨w.heap.size + 1 + 1, 1, none⟩ (.int .i64 1)) (w.heap.size + 1 + 1) ⟨2, 1, ⟨#[]⟩, none, 0, 0, none, 0, 0⟩ := (HV2.out.setK 2).setN 1
  have hg : W0.grownBy ((W0.setCell ⟨w.heap.size + 1 + 1, 0, none⟩ (.int .i64 2)).setCell ⟨w.heap.size + 1 + 1, 1, none⟩ (.int .i64 1)) (some (w.heap.size + 1 + 1)) := (grownBy_set _ _ _ _).trans (grownBy_set _ _ _ _)
  obtain ⟨W1, hW1⟩ : ∃ W1, ((W0.setCell ⟨w.heap.size + 1 + 1, 0, none⟩ (.int .i64 2)).setCell ⟨w.heap.size + 1 + 1, 1, none⟩ (.int .i64 1)) = W1 := ⟨_, rfl⟩
  rw [hW1] at hv hg
  try rw [hW1]
  clear hW1
  obtain ⟨h1, h2, h3⟩ := HK.out 2 1 ⟨#[]⟩ W1 hv hg
  obtain ⟨p, nn, c, hr, hrd⟩ := h2.ex
  have c2 := hr.cell 2 rfl
  have z2 := hr.frozen 2
  have hgx := grownBy_set W1 g 2 (.int .i64 ((pa : Int) + 1))
  have hR3 : RdS (W1.setCell ⟨g, 2, none⟩ (.int .i64 ((pa : Int) + 1))) g ts en (pa + 1) := ⟨p, nn, c, hr.set2' _ _ (by omega), hrd.below (below_of hgx (by have := hr.lt; omega) (fun k e => by cases e; exact Nat.le_refl _)) (Nat.le_refl _)⟩
  have hV3 := h1.keep (hgx.block _ h1.lt (by simp; omega))
  have hV4 := hv.keep (hgx.block _ hv.lt (by simp; omega))
  have hG3 := h3.keep_some hgx
  go_upto_region 20 with fail
  have c3 := hR3.cell2
  obtain ⟨W2, hW2⟩ : ∃ W2, W1.setCell ⟨g, 2, none⟩ (.int .i64 ((pa : Int) + 1)) = W2 := ⟨_, rfl⟩
  rw [hW2] at hR3 hV3 hV4 hG3 c3
  try rw [hW2]
  clear hW2 c2 z2 v0 v1 v2 v3 v4 y0 y1 y2 y3 y4 a0 a1 a2 hgx hr hrd h1 h2 h3 hv hg
  obtain ⟨v0, v1, v2, v3, v4⟩ := hV4.cells5
  obtain ⟨z0, z1, z2, z3, z4⟩ := hV3.cells5
  have y0 := hV3.frozen 0
  have y1 := hV3.frozen 1
  have y2 := hV3.frozen 2
  have y3 := hV3.frozen 3
  have y4 := hV3.frozen 4
  dsimp only [RV.zero] at v0 v1 v2 v3 v4 z0 z1 z2 z3 z4
  have HR3 := Lib.hid hR3
  have HV3 := Lib.hid hV3
  have HG3 := Lib.hid hG3
  clear hR3 hV3 hV4 hG3
  go_wp2_with fail
  exact bodyPost_ret (v := RV.val ⟨2, 1, ⟨#[]⟩, none, 0, 0, none, 0, 0⟩) (by simp [results, Tryz.results78, go_sem, z0, z1, z2, z3, z4]) rfl (HF.out 2 1 ⟨#[]⟩ W2 HV3.out HR3.out HG3.out)
 ·have q1 : (tS.toList == [110, 117, 108, 108]) = false := by rw [<- lit_null, str_beq]; exact decide_eq_false n1
  have q2 : (tS.toList == [116, 114, 117, 101]) = false := by rw [<- lit_true, str_beq]; exact decide_eq_false n2
  clear n1 n2
  go_upto_region 17 with fail
  have hv : VAt (W0.setCell ⟨w.heap.size + 1 + 1, 0, none⟩ (.int .i64 2)) (w.heap.size + 1 + 1) ⟨2, 0, ⟨#[]⟩, none, 0, 0, none, 0, 0⟩ := HV2.out.setK 2
  have hg : W0.grownBy (W0.setCell ⟨w.heap.size + 1 + 1, 0, none⟩ (.int .i64 2)) (some (w.heap.size + 1 + 1)) := grownBy_set _ _ _ _
  obtain ⟨W1, hW1⟩ : ∃ W1, (W0.setCell ⟨w.heap.size + 1 + 1, 0, none⟩ (.int .i64 2)) = W1 := ⟨_, rfl⟩
  rw [hW1] at hv hg
  try rw [hW1]
  clear hW1
  obtain ⟨h1, h2, h3⟩ := HK.out 2 0 ⟨#[]⟩ W1 hv hg
  obtain ⟨p, nn, c, hr, hrd⟩ := h2.ex
  have c2 := hr.cell 2 rfl
  have z2 := hr.frozen 2
  have hgx := grownBy_set W1 g 2 (.int .i64 ((pa : Int) + 1))
  have hR3 : RdS (W1.setCell ⟨g, 2, none⟩ (.int .i64 ((pa : Int) + 1))) g ts en (pa + 1) := ⟨p, nn, c, hr.set2' _ _ (by omega), hrd.below (below_of hgx (by have := hr.lt; omega) (fun k e => by cases e; exact Nat.le_refl _)) (Nat.le_refl _)⟩
  have hV3 := h1.keep (hgx.block _ h1.lt (by simp; omega))
  have hV4 := hv.keep (hgx.block _ hv.lt (by simp; omega))
  have hG3 := h3.keep_some hgx
  go_upto_region 20 with fail
  have c3 := hR3.cell2
  obtain ⟨W2, hW2⟩ : ∃ W2, W1.setCell ⟨g, 2, none⟩ (.int .i64 ((pa : Int) + 1)) = W2 := ⟨_, rfl⟩
  rw [hW2] at hR3 hV3 hV4 hG3 c3
  try rw [hW2]
  clear hW2 c2 z2 v0 v1 v2 v3 v4 y0 y1 y2 y3 y4 a0 a1 a2 hgx hr hrd h1 h2 h3 hv hg
  obtain ⟨v0, v1, v2, v3, v4⟩ := hV4.cells5
  obtain ⟨z0, z1, z2, z3, z4⟩ := hV3.cells5
  have y0 := hV3.frozen 0
  have y1 := hV3.frozen 1
  have y2 := hV3.frozen 2
  have y3 := hV3.frozen 3
  have y4 := hV3.frozen 4
  dsimp only [RV.zero] at v0 v1 v2 v3 v4 z0 z1 z2 z3 z4
  have HR3 := Lib.hid hR3
  have HV3 := Lib.hid hV3
  have HG3 := Lib.hid hG3
  clear hR3 hV3 hV4 hG3
  go_wp2_with fail
  exact bodyPost_ret (v := RV.val ⟨2, 0, ⟨#[]⟩, none, 0, 0, none, 0, 0⟩) (by simp [results, Tryz.results78, go_sem, z0, z1, z2, z3, z4]) rfl (HF.out 2 0 ⟨#[]⟩ W2 HV3.out HR3.out HG3.out)
 ·go_upto_region 17 with fail
  have hv : VAt (((((W0.setCell ⟨w.heap.size + 1 + 1, 0, none⟩ (.int .i64 3)).setCell ⟨w.heap.size + 1 + 1, 1, none⟩ (.int .i64 tn)).setCell ⟨w.heap.size + 1 + 1, 2, none⟩ (.string ⟨#[]⟩)).setCell ⟨w.heap.size + 1 + 1, 3, none⟩ (.slice none 0 0)).setCell ⟨w.heap.size + 1 + 1, 4, none⟩ (.slice none 0 0)) (w.heap.size + 1 + 1) ⟨3, tn, ⟨#[]⟩, none, 0, 0, none, 0, 0⟩ := HV2.out.stored ⟨3, tn, ⟨#[]⟩, none, 0, 0, none, 0, 0⟩
  have hg : W0.grownBy (((((W0.setCell ⟨w.heap.size + 1 + 1, 0, none⟩ (.int .i64 3)).setCell ⟨w.heap.size + 1 + 1, 1, none⟩ (.int .i64 tn)).setCell ⟨w.heap.size + 1 + 1, 2, none⟩ (.string ⟨#[]⟩)).setCell ⟨w.heap.size + 1 + 1, 3, none⟩ (.slice none 0 0)).setCell ⟨w.heap.size + 1 + 1, 4, none⟩ (.slice none 0 0)) (some (w.heap.size + 1 + 1)) := grownBy_set5 W0 _ ⟨3, tn, ⟨#[]⟩, none, 0, 0, none, 0, 0⟩
  obtain ⟨W1, hW1⟩ : ∃ W1, (((((W0.setCell ⟨w.heap.size + 1 + 1, 0, none⟩ (.int .i64 3)).setCell ⟨w.heap.size + 1 + 1, 1, none⟩ (.int .i64 tn)).setCell ⟨w.heap.size + 1 + 1, 2, none⟩ (.string ⟨#[]⟩)).setCell ⟨w.heap.size + 1 + 1, 3, none⟩ (.slice none 0 0)).setCell ⟨w.heap.size + 1 + 1, 4, none⟩ (.slice none 0 0)) = W1 := ⟨_, rfl⟩
  rw [hW1] at hv hg
  try rw [hW1]
  clear hW1
  obtain ⟨h1, h2, h3⟩ := HK.out 3 tn ⟨#[]⟩ W1 hv hg
  obtain ⟨p, nn, c, hr, hrd⟩ := h2.ex
  have c2 := hr.cell 2 rfl
  have z2 := hr.frozen 2
  have hgx := grownBy_set W1 g 2 (.int .i64 ((pa : Int) + 1))
  have hR3 : RdS (W1.setCell ⟨g, 2, none⟩ (.int .i64 ((pa : Int) + 1))) g ts en (pa + 1) := ⟨p, nn, c, hr.set2' _ _ (by omega), hrd.below (below_of hgx (by have := hr.lt; omega) (fun k e => by cases e; exact Nat.le_refl _)) (Nat.le_refl _)⟩
  have hV3 := h1.keep (hgx.block _ h1.lt (by simp; omega))
  have hV4 := hv.keep (hgx.block _ hv.lt (by simp; omega))
  have hG3 := h3.keep_some hgx
  go_upto_region 20 with fail
  have c3 := hR3.cell2
  obtain ⟨W2, hW2⟩ : ∃ W2, W1.setCell ⟨g, 2, none⟩ (.int .i64 ((pa : Int) + 1)) = W2 := ⟨_, rfl⟩
  rw [hW2] at hR3 hV3 hV4 hG3 c3
  try rw [hW2]
  clear hW2 c2 z2 v0 v1 v2 v3 v4 y0 y1 y2 y3 y4 a0 a1 a2 hgx hr hrd h1 h2 h3 hv hg
  obtain ⟨v0, v1, v2, v3, v4⟩ := hV4.cells5
  obtain ⟨z0, z1, z2, z3, z4⟩ := hV3.cells5
  have y0 := hV3.frozen 0
  have y1 := hV3.frozen 1
  have y2 := hV3.frozen 2
  have y3 := hV3.frozen 3
  have y4 := hV3.frozen 4
  dsimp only [RV.zero] at v0 v1 v2 v3 v4 z0 z1 z2 z3 z4
  have HR3 := Lib.hid hR3
  have HV3 := Lib.hid hV3
  have HG3 := Lib.hid hG3
  clear hR3 hV3 hV4 hG3
  go_wp2_with fail
  exact bodyPost_ret (v := RV.val ⟨3, tn, ⟨#[]⟩, none, 0, 0, none, 0, 0⟩) (by simp [results, Tryz.results78, go_sem, z0, z1, z2, z3, z4]) rfl (HF.out 3 tn ⟨#[]⟩ W2 HV3.out HR3.out HG3.out)
theorem par_bd : ∀ (f : Nat), (∀ (d p : Nat) (ts : List Tok) (v : JV) (q : Nat) (r : List Tok), parV f d p ts = some (v, q, r) -> p < q /\ q <= 8192 /\ d <= 16) /\
 (∀ (d p : Nat) (ts : List Tok) (l : List JV) (q : Nat) (r : List Tok), parL f d p ts = some (l, q, r) -> p < q /\ q <= 8192) /\
 (∀ (d p : Nat) (k : List ByteArray) (ts : List Tok) (l : List (ByteArray × JV)) (q : Nat) (r : List Tok), parM f d p k ts = some (l, q, r) -> p < q /\ q <= 8192)
 | 0 => ⟨fun d p ts v q r h => by cases ts <;> simp [parV] at h, fun d p ts l q r h => by simp [parL] at h, fun d p k ts l q r h => by simp [parM] at h⟩
 | f + 1 => by
   have ih := par_bd f
   refine ⟨fun d p ts v q r h => ?_, fun d p ts l q r h => ?_, fun d p k ts l q r h => ?_⟩
   ·cases ts with
    | nil => simp [parV] at h
    | cons t ts =>
      unfold parV at h
      split at h
      ·cases h
      ·rename_i hc
       have hc2 : d <= 16 /\ p < 8192 := by omega
       split at h
       ·cases h; omega
       ·split at h
        ·split at h
         ·cases h; omega
         ·split at h <;> (cases h; omega)
        ·split at h
         ·cases ts with
          | nil => cases h
          | cons c r' =>
            dsimp only at h
            split at h
            ·cases h; omega
            ·obtain ⟨x, hx, he⟩ := Option.map_eq_some_iff.1 h
             cases he
             have := ih.2.1 _ _ _ _ _ _ (show parL f d (p + 1) (c :: r') = some (x.1, x.2.1, x.2.2) from hx)
             omega
         ·split at h
          ·cases ts with
           | nil => cases h
           | cons c r' =>
             dsimp only at h
             split at h
             ·cases h; omega
             ·obtain ⟨x, hx, he⟩ := Option.map_eq_some_iff.1 h
              cases he
              have := ih.2.2 _ _ _ _ _ _ _ (show parM f d (p + 1) [] (c :: r') = some (x.1, x.2.1, x.2.2) from hx)
              omega
          ·split at h
           ·cases h; omega
           ·cases h
   ·unfold parL at h
    split at h
    ·rename_i v p' c r' hv
     have h1 := ih.1 _ _ _ _ _ _ hv
     split at h
     ·cases h; omega
     ·split at h
      ·obtain ⟨x, hx, he⟩ := Option.map_eq_some_iff.1 h
       cases he
       have := ih.2.1 _ _ _ _ _ _ (show parL f d p' r' = some (x.1, x.2.1, x.2.2) from hx)
       omega
      ·cases h
    ·cases h
   ·match ts, h with
    | [], h => simp [parM] at h
    | [_], h => simp [parM] at h
    | n :: col :: ts, h =>
      unfold parM at h
      split at h
      ·split at h
       ·rename_i v p' c r' hv
        have h1 := ih.1 _ _ _ _ _ _ hv
        split at h
        ·cases h; omega
        ·split at h
         ·obtain ⟨x, hx, he⟩ := Option.map_eq_some_iff.1 h
          cases he
          have := ih.2.2 _ _ _ _ _ _ _ (show parM f d p' (n.s :: k) r' = some (x.1, x.2.1, x.2.2) from hx)
          omega
         ·cases h
       ·cases h
      ·cases h
theorem parL_step {f d p : Nat} {ts : List Tok} {l : List JV} {q : Nat} {r : List Tok} (h : parL f d p ts = some (l, q, r)) :
 ∃ f' t ts' v p' c r', f = f' + 1 /\ ts = t :: ts' /\ parV f' (d + 1) p (t :: ts') = some (v, p', c :: r') /\ p < p' /\ p' <= 8192 /\ ((isM c 93 = true /\ l = [v] /\ q = p' /\ r = r') \/ (isM c 93 = false /\ isM c 44 = true /\ ∃ l', l = v :: l' /\ parL f' d p' r' = some (l', q, r))) := by
 cases f with
 | zero => simp [parL] at h
 | succ f =>
   unfold parL at h
   split at h
   ·rename_i v p' c r' hv
    have hb := (par_bd f).1 _ _ _ _ _ _ hv
    cases ts with
    | nil => cases f <;> simp [parV] at hv
    | cons t ts =>
      refine ⟨f, t, ts, v, p', c, r', rfl, rfl, hv, hb.1, hb.2.1, ?_⟩
      split at h
      ·cases h; exact .inl ⟨‹_›, rfl, rfl, rfl⟩
      ·rename_i h9
       split at h
       ·rename_i h4
        obtain ⟨x, hx, he⟩ := Option.map_eq_some_iff.1 h
        cases he
        exact .inr ⟨by simpa using h9, h4, x.1, rfl, hx⟩
       ·cases h
   ·cases h
def PV (N : Nat) : Prop := ∀ f, f <= N -> ∀ (d p : Nat) (t : Tok) (ts : List Tok) (v : JV) (q : Nat) (r : List Tok), parV f d p (t :: ts) = some (v, q, r) -> ∀ (w : World) (g en : Nat), RdS w g ts en p ->
    Calls Tryz.prog 78 #[.pointer (some ⟨g, 0, none⟩), t.val, .int .i64 d] w (ValR w g v r en q)
def LstR (w : World) (g : Nat) (l : List JV) (ts : List Tok) (en pa : Nat) (e : Ending) (w' : World) : Prop := ∃ p n c, e = .returned (.slice p n c) /\ GrL w' w.heap.size (.slice p n c) l /\ RdS w' g ts en pa /\ w.grownBy w' (some g)
theorem _root_.Go.RowKit.Below.gbr {w w' : World} (h : Below w.heap.size w w') (row : Option Nat) : w.grownBy w' row := ⟨h.os, h.tape, h.output, h.size, fun k hk _ => h.block k hk⟩
theorem _root_.Go.World.grownBy.own_row {w w1 w2 : World} {row r2 : Option Nat} (h : w.grownBy w1 row) (h2 : w1.grownBy w2 r2) (hx : ∀ k, r2 = some k -> w.heap.size <= k) : w.grownBy w2 row :=
 ⟨h2.os.trans h.os, h2.tape.trans h.tape, h2.output.trans h.output, Nat.le_trans h.size h2.size, fun k hk hne => (h2.block k (Nat.lt_of_lt_of_le hk h.size) (fun e => by have := hx k e.symm; omega)).trans (h.block k hk hne)⟩
theorem GrL.other {w w' : World} {base g : Nat} {v : Value} {l : List JV} (h : GrL w base v l) (hg : w.grownBy w' (some g)) (hb : g < base) : GrL w' base v l :=
 h.out (fun k h1 h2 => hg.block k h2 (fun e => by cases e; omega)) hg.size
theorem GrL.own {w : World} {base : Nat} {v : Value} {l : List JV} (h : GrL w base v l) : ∃ p n c, v = .slice p n c /\ n = l.length /\ ∀ k, v.ownBlock = some k -> base <= k /\ k < w.heap.size := by
 obtain ⟨rs, h1, h2, _⟩ := h.ex
 obtain ⟨p, c, hv, _, _⟩ := h1.len
 exact ⟨p, _, c, hv, by rw [h2], h1.lt⟩
theorem list_none (w : World) (g en pa deep : Nat) (c : Tok) (r : List Tok) (h : RdS w g (c :: r) en pa) (hc : isM c 93 = true) : Calls Tryz.prog 107 #[.pointer (some ⟨g, 0, none⟩), .int .i64 deep] w (LstR w g [] r en pa) := by
 have HP := Lib.hid (peek_any w g en pa c r 93 true h hc)
 have HN : Hid (∀ W, Below w.heap.size w W -> Calls Tryz.prog 79 #[.pointer (some ⟨g, 0, none⟩)] W (NxtRet W g c r en pa)) := fun W hb => next_any W g en pa c r (h.kept (hb.gbr none) (fun k e => by cases e))
 clear h hc
 go_enter Tryz.func107, Tryz.ntmps107
 go_wp2_with (first
  | (go_at_call 142; refine HP.out.mono ?_; rintro e w1 ⟨rfl, hb1⟩)
  | (go_at_call 79; refine (HN.out _ hb1).mono ?_; rintro e w2 ⟨rfl, hr2, hg2⟩))
 go_ret
 exact ⟨none, 0, 0, rfl, GrL.nil _ _, hr2, ((hb1.gbr none).keep_some hg2)⟩
theorem list_some (N : Nat) (hV : PV N) (w : World) (g en pa deep f0 : Nat) (c : Tok) (r : List Tok) (l : List JV) (q : Nat) (rest : List Tok) (h : RdS w g (c :: r) en pa) (hd : deep <= 16) (hc : isM c 93 = false) (hf : f0 <= N) (hl : parL f0 deep pa (c :: r) = some (l, q, rest)) :
 Calls Tryz.prog 107 #[.pointer (some ⟨g, 0, none⟩), .int .i64 deep] w (LstR w g l rest en q) := by
 have hgl := h.lt
 have HP := Lib.hid (peek_any w g en pa c r 93 false h hc)
 have HL := Lib.hid hl
 have H0 := Lib.hid h
 have hd0 : (0 : Int) <= (deep : Int) := Int.natCast_nonneg _
 have hd1 : (deep : Int) <= 16 := by omega
 have HV : Hid (∀ f, f <= N -> ∀ (p : Nat) (t : Tok) (ts : List Tok) (v : JV) (q : Nat) (r : List Tok), parV f (deep + 1) p (t :: ts) = some (v, q, r) -> ∀ (w : World), RdS w g ts en p ->
  Calls Tryz.prog 78 #[.pointer (some ⟨g, 0, none⟩), t.val, .int .i64 ((deep : Int) + 1)] w (ValR w g v r en q)) := fun f hf p t ts v q r hp w hr => hV f hf (deep + 1) p t ts v q r hp w g en hr
 clear h hc hl hd hV
 go_enter Tryz.func107, Tryz.ntmps107
 go_wp2_with (go_at_call 142; refine HP.out.mono ?_; rintro e w1 ⟨rfl, hb1⟩)
 have HB1 := Lib.hid hb1
 clear hb1
 go_loopg [5] f0 (fun gk o wr => gk <= N /\ ∃ ts1 pa1 l1 l2, Hid (parL gk deep pa1 ts1 = some (l2, q, rest) /\ l = l1 ++ l2 /\ RdS wr g ts1 en pa1 /\ GrL wr w.heap.size o l1 /\ l1.length <= pa1 /\ w.grownBy wr (some g)))
 case atStart => exact ⟨hf, c :: r, pa, [], l, HL.out, rfl, H0.out.kept (HB1.out.gbr none) (fun k e => by cases e), GrL.nil _ _, Nat.zero_le _, HB1.out.gbr _⟩
 case round =>
  obtain ⟨hgk, ts1, pa1, l1, l2, hH⟩ := hrel
  obtain ⟨hpl, hll, hrs, hgr, hlen, hgw⟩ := hH.out
  clear hH
  obtain ⟨f', t, ts', v, p', c1, r', rfl, rfl, hpv, hp1, hp2, hcase⟩ := parL_step hpl
  obtain ⟨po, no, co, rfl, hno, hlt⟩ := hgr.own
  have HNX := Lib.hid (next_any wr g en pa1 t ts' hrs)
  have HVA : Hid (∀ W, RdS W g ts' en pa1 -> Calls Tryz.prog 78 #[.pointer (some ⟨g, 0, none⟩), t.val, .int .i64 ((deep : Int) + 1)] W (ValR W g v (c1 :: r') en p')) := fun W hr => HV.out f' (by omega) pa1 t ts' v p' (c1 :: r') hpv W hr
  have HLEN : Hid (l1.length < p' /\ p' <= 8192) := ⟨by omega, hp2⟩
  have HCASE := Lib.hid hcase
  have HLL := Lib.hid hll
  have HGR := Lib.hid hgr
  have HGW := Lib.hid hgw
  have HRS := Lib.hid hrs
  have HNO := Lib.hid hno
  clear hpl hpv hcase hll hgr hgw hno hlt hlen hp1 hp2 hrs
  have HN2 : Hid (∀ W, RdS W g (c1 :: r') en p' -> Calls Tryz.prog 79 #[.pointer (some ⟨g, 0, none⟩)] W (NxtRet W g c1 r' en p')) := fun W hr => next_any W g en p' c1 r' hr
  obtain ⟨tk, tn, tS, tp⟩ := t
  obtain ⟨ck, cn, cS, cp⟩ := c1
  dsimp only [Tok.val, NxtRet] at *
  go_upto_region 6 with (first
   | (go_at_call 79; refine HNX.out.mono ?_; rintro e w2 ⟨rfl, hr2, hg2⟩)
   | (go_at_call 78; refine (HVA.out _ hr2).mono ?_; rintro e w3 ⟨rv, rfl, ht3, hr3, hg3⟩; (have hgr3 := (HGR.out.other hg2 hgl).other hg3 hgl); obtain ⟨rs, hO3, hl3, hT3⟩ := hgr3.ex; obtain ⟨vk, vn, vs, vpl, vnl, vcl, vpm, vnm, vcm⟩ := rv; (have HL3 := Lib.hid hl3); (have HT3 := Lib.hid hT3); (have HS3 : Hid (w.heap.size <= w2.heap.size /\ w2.heap.size <= w3.heap.size /\ wr.heap.size <= w2.heap.size) := ⟨Nat.le_trans HGW.out.size hg2.size, hg3.size, hg2.size⟩); clear hl3 hT3 hgr3)
   | (at_builtin; refine wpList_append_rd slV codecV (w3.alloc (.cells #[.int .i64 vk, .int .i64 vn, .string vs, .slice vpl vnl vcl, .slice vpm vnm vcm] 25)) rfl (.tmp 11) (.tmp 18) rfl (v := .slice po no co) rfl rfl (hO3.alloc _) (Rd.one (B := w3.heap.size + 1) (x := (⟨vk, vn, vs, vpl, vnl, vcl, vpm, vnm, vcm⟩ : RV)) codecV (heap_alloc_new _ _) rfl (by omega)) (by have := HLEN.out; have := HL3.out; simp only [List.length_singleton]; unfold maxLen; omega) (by have := HLEN.out; have := HL3.out; simp only [List.length_singleton]; omega) (by have := HS3.out; simp; omega) ?_; intro v4 w4 ho4 hg4 hat4))
  have hlt := HGR.out.own
  have hgr4 : GrL w4 w.heap.size v4 (l1 ++ [v]) := by
   obtain ⟨_, _, _, hv, _, hlt⟩ := hlt
   cases hv
   refine GrL.snoc hO3 HL3.out HT3.out (ht3.mono (fun k hk => ⟨by have := hk.1; have := HS3.out; omega, hk.2, fun e => by have := (hlt k e).2; have := hk.1; have := HS3.out; omega⟩)) ho4 ((World.grownBy_alloc _ _ _).trans hg4) (fun k e => ?_)
   rcases hat4 with h | h
   ·exact .inl (h ▸ e)
   ·rw [h] at e; cases e; exact .inr (by simp)
  have hrow : ∀ k, (Value.slice po no co).ownBlock = some k -> w.heap.size <= k := fun k e => by
   obtain ⟨_, _, _, hv, _, hlt⟩ := hlt
   cases hv
   exact (hlt k e).1
  have hr4 := (hr3.kept (World.grownBy_alloc w3 (.cells #[.int .i64 vk, .int .i64 vn, .string vs, .slice vpl vnl vcl, .slice vpm vnm vcm] 25) none) (fun k e => by cases e)).kept hg4 (fun k e => by have := hrow k e; omega)
  have hg4' := ((HGW.out.trans (hg2.trans hg3)).own_row (World.grownBy_alloc w3 (.cells #[.int .i64 vk, .int .i64 vn, .string vs, .slice vpl vnl vcl, .slice vpm vnm vcm] 25) none) (fun k e => by cases e)).own_row hg4 hrow
  obtain ⟨p4, n4, c4, rfl, hn4, hlt4⟩ := hgr4.own
  have HGR4 := Lib.hid hgr4
  have HR4 := Lib.hid hr4
  have HG4 := Lib.hid hg4'
  clear hgr4 hr4 hg4' hn4 hlt4 hlt hrow hg4 ho4 hat4 hO3 HT3 HL3 ht3 hr3 hg3 hr2 hg2 HNX HVA
  go_upto_region 7 with (go_at_call 79; refine (HN2.out _ HR4.out).mono ?_; rintro e w5 ⟨rfl, hr5, hg5⟩)
  have hT5 : TokAt (w5.alloc (.cells #[.int .i64 ck, .int .i64 cn, .string cS, .int .i64 cp] 115)) w5.heap.size ⟨ck, cn, cS, cp⟩ := heap_alloc_at rfl
  have hr6 := hr5.kept (World.grownBy_alloc w5 (.cells #[.int .i64 ck, .int .i64 cn, .string cS, .int .i64 cp] 115) none) (fun k e => by cases e)
  have hgr6 := (HGR4.out.other hg5 hgl).out (w' := w5.alloc (.cells #[.int .i64 ck, .int .i64 cn, .string cS, .int .i64 cp] 115)) (fun k h1 h2 => Below.heap_alloc _ _ k h2) (by simp)
  have hg6 := (HG4.out.trans hg5).own_row (World.grownBy_alloc w5 (.cells #[.int .i64 ck, .int .i64 cn, .string cS, .int .i64 cp] 115) none) (fun k e => by cases e)
  obtain ⟨b6, hb6⟩ : ∃ b, w5.heap.size = b := ⟨_, rfl⟩
  obtain ⟨w6, hw6⟩ : ∃ W, w5.alloc (.cells #[.int .i64 ck, .int .i64 cn, .string cS, .int .i64 cp] 115) = W := ⟨_, rfl⟩
  rw [hw6, hb6] at hT5
  rw [hw6] at hr6 hgr6 hg6
  try rw [hw6]
  try rw [hb6]
  clear hw6 hb6 hr5 hg5 HR4 HGR4 HG4
  have a0 := hT5.cell 0 rfl
  have a1 := hT5.cell 1 rfl
  have a2 := hT5.cell 2 rfl
  have a3 := hT5.cell 3 rfl
  have HR6 := Lib.hid hr6
  have HGR6 := Lib.hid hgr6
  have HG6 := Lib.hid hg6
  have HT6 := Lib.hid hT5
  clear hr6 hgr6 hg6 hT5
  have hcase := HCASE.out
  rcases hcase with ⟨hc1, hc2, hc3, hc4⟩ | ⟨hc1, hc2, l', hc3, hc4⟩
  ·have HI : Hid (∀ W, Calls Tryz.prog 106 #[.agg #[.int .i64 ck, .int .i64 cn, .string cS, .int .i64 cp], .string ⟨#[93]⟩] W fun e w' => e = .returned (.bool true) /\ Below W.heap.size W w') := fun W => is_any ⟨ck, cn, cS, cp⟩ 93 W true hc1
   have HC : Hid (l = l1 ++ [v] /\ q = p' /\ rest = r') := ⟨by rw [HLL.out, hc2], hc3, hc4⟩
   clear hc1 hc2 hc3 hc4 HCASE
   go_wp2_with (go_at_call 106; refine (HI.out _).mono ?_; rintro e w7 ⟨rfl, hb7⟩)
   go_ret
   obtain ⟨e1, e2, e3⟩ := HC.out
   rw [e1, e2, e3]
   exact ⟨p4, n4, c4, rfl, HGR6.out.out (fun k _ h2 => hb7.block k h2) hb7.size, HR6.out.kept (hb7.gbr none) (fun k e => by cases e), HG6.out.own_row (hb7.gbr none) (fun k e => by cases e)⟩
  ·have HI : Hid (∀ W, Calls Tryz.prog 106 #[.agg #[.int .i64 ck, .int .i64 cn, .string cS, .int .i64 cp], .string ⟨#[93]⟩] W fun e w' => e = .returned (.bool false) /\ Below W.heap.size W w') := fun W => is_any ⟨ck, cn, cS, cp⟩ 93 W false hc1
   have HJ : Hid (∀ W, Calls Tryz.prog 106 #[.agg #[.int .i64 ck, .int .i64 cn, .string cS, .int .i64 cp], .string ⟨#[44]⟩] W fun e w' => e = .returned (.bool true) /\ Below W.heap.size W w') := fun W => is_any ⟨ck, cn, cS, cp⟩ 44 W true hc2
   have HC : Hid (l = (l1 ++ [v]) ++ l' /\ parL f' deep p' r' = some (l', q, rest)) := ⟨by rw [HLL.out, hc3]; simp, hc4⟩
   clear hc1 hc2 hc3 hc4 HCASE
   go_upto_region 9 with (go_at_call 106; refine (HI.out _).mono ?_; rintro e w7 ⟨rfl, hb7⟩)
   have hT7 := HT6.out.keep (hb7.block _ HT6.out.lt)
   clear a0 a1 a2 a3
   have a0 := hT7.cell 0 rfl
   have a1 := hT7.cell 1 rfl
   have a2 := hT7.cell 2 rfl
   have a3 := hT7.cell 3 rfl
   go_wp2_with (go_at_call 106; refine (HJ.out _).mono ?_; rintro e w8 ⟨rfl, hb8⟩)
   go_roundg f'
   case measure => omega
   case rel =>
    exact ⟨by omega, r', p', l1 ++ [v], l', HC.out.2, HC.out.1, (HR6.out.kept (hb7.gbr none) (fun k e => by cases e)).kept (hb8.gbr none) (fun k e => by cases e), (HGR6.out.out (fun k _ h2 => hb7.block k h2) hb7.size).out (fun k _ h2 => hb8.block k h2) hb8.size, by have := HLEN.out; simp; omega, (HG6.out.own_row (hb7.gbr none) (fun k e => by cases e)).own_row (hb8.gbr none) (fun k e => by cases e)⟩
end
section
open Go.RowKit Go.OpenShut
section
variable {P : Program} (w : World) {ops : Array Oper} {rest : List Oper} {o : Oper} {a : Act} {Q : Exit -> Act -> World -> Prop}
end
theorem bytes_ext {a b : ByteArray} (h : a.data.toList = b.data.toList) : a = b := by
 obtain ⟨⟨x⟩⟩ := a
 obtain ⟨⟨y⟩⟩ := b
 simp only at h
 rw [h]
end
end Go.Proofs.YtffhccmppdgmfaaGreatDoor
