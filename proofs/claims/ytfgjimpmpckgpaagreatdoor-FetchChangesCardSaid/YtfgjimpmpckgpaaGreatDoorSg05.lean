import Derived.Test.YtfgjimpmpckgpaaGreatDoorSg04
import Derived.Test.YtfgjimpmpckgpaaGreatDoorSg00
import Derived.Test.YtfgjimpmpckgpaaGreatDoorSg03
import Derived.ProofKit
import Derived.Below
import Derived.Test.YtfgjimpmpckgpaaGreatDoorProg
import Derived.WalkKit
import Derived.WalkSpells
import Derived.WalkLawsBesides
import Derived.BigQuiet
import Derived.Deep.QuietTactic
import Derived.Lib.Hide
set_option linter.unusedSimpArgs false
set_option linter.unusedVariables false
set_option maxRecDepth 200000
set_option maxHeartbeats 8000000
namespace Go.Proofs.YtfgjimpmpckgpaaGreatDoor
section
open Go Go.RowKit Go.OpenShut
abbrev Tok.val (t : Tok) : Value := .agg #[.int .i64 t.kind, .int .i64 t.n, .string t.s, .int .i64 t.pos]
abbrev Tok.obj (t : Tok) : Obj := .cells #[.int .i64 t.kind, .int .i64 t.n, .string t.s, .int .i64 t.pos] 121
def TokAt (W : World) (g : Nat) (t : Tok) : Prop := W.heap[g]? = some (.cells #[.int .i64 t.kind, .int .i64 t.n, .string t.s, .int .i64 t.pos] 121 (0, 0))
theorem TokAt.lt {W : World} {g : Nat} {t : Tok} (h : TokAt W g t) : g < W.heap.size := (Array.getElem?_eq_some_iff.1 h).1
theorem TokAt.cell {W : World} {g : Nat} {t : Tok} (h : TokAt W g t) (j : Nat) {u : Value} (hu : (encTok t)[j]? = some u) : W.cell? ⟨g, j, none⟩ = some u := by
 unfold TokAt at h
 rw [cell_of_row W g j _ _ _ h, <- Array.getElem?_toList]
 exact hu
theorem TokAt.frozen {W : World} {g : Nat} {t : Tok} (h : TokAt W g t) (j : Nat) : W.frozen? ⟨g, j, none⟩ = false := by
 unfold TokAt at h
 simp [World.frozen?, h]
theorem TokAt.keep {W W' : World} {g : Nat} {t : Tok} (h : TokAt W g t) (hk : W'.heap[g]? = W.heap[g]?) : TokAt W' g t := hk.trans h
theorem TokAt.stored {W : World} {g : Nat} {t : Tok} (h : TokAt W g t) (q : Tok) : TokAt ((((W.setCell ⟨g, 0, none⟩ (.int .i64 q.kind)).setCell ⟨g, 1, none⟩ (.int .i64 q.n)).setCell ⟨g, 2, none⟩ (.string q.s)).setCell ⟨g, 3, none⟩ (.int .i64 q.pos)) g q := by
 unfold TokAt at h ⊢
 simp [World.setCell, Array.getElem?_modify, h]
theorem grownBy_setT (W : World) (g : Nat) (q : Tok) : W.grownBy ((((W.setCell ⟨g, 0, none⟩ (.int .i64 q.kind)).setCell ⟨g, 1, none⟩ (.int .i64 q.n)).setCell ⟨g, 2, none⟩ (.string q.s)).setCell ⟨g, 3, none⟩ (.int .i64 q.pos)) (some g) :=
 (((grownBy_set W g 0 _).trans (grownBy_set _ g 1 _)).trans (grownBy_set _ g 2 _)).trans (grownBy_set _ g 3 _)
theorem rd_lens {α : Type} {enc : α -> List Value} {sz B : Nat} {w : World} {v : Value} {xs : List α} (h : Rd w B enc sz v xs) : ∃ p cap, v = .slice p xs.length cap /\ xs.length <= cap /\ cap <= 9223372036854775807 := by
 obtain ⟨p, cap, he, h1, h2, _⟩ := h
 exact ⟨p, cap, he, h1, h2⟩
def Tok.zero : Tok := ⟨0, 0, ⟨#[]⟩, 0⟩
theorem infoTk : (Tryz.prog.info? 121).map (fun i => (i.zero, i.size, i.bytes)) = some (some (.agg #[.int .i64 0, .int .i64 0, .string ByteArray.empty, .int .i64 0]), 4, 40) := by kernel_rfl
theorem slTk : SlT Tryz.prog 110 121 4 40 := SlT.mk Tryz.underlying110 infoTk rfl
def RdrAt (W : World) (g : Nat) (v : Value) (en pa : Nat) : Prop := W.heap[g]? = some (.cells #[v, .int .i64 en, .int .i64 pa] 118 (0, 0))
theorem RdrAt.lt {W : World} {g en pa : Nat} {v : Value} (h : RdrAt W g v en pa) : g < W.heap.size := (Array.getElem?_eq_some_iff.1 h).1
theorem RdrAt.cell {W : World} {g en pa : Nat} {v : Value} (h : RdrAt W g v en pa) (j : Nat) {u : Value} (hu : [v, Value.int .i64 en, .int .i64 pa][j]? = some u) : W.cell? ⟨g, j, none⟩ = some u := by
 unfold RdrAt at h
 rw [cell_of_row W g j _ _ _ h, <- Array.getElem?_toList]
 exact hu
theorem RdrAt.frozen {W : World} {g en pa : Nat} {v : Value} (h : RdrAt W g v en pa) (j : Nat) : W.frozen? ⟨g, j, none⟩ = false := by
 unfold RdrAt at h
 simp [World.frozen?, h]
theorem RdrAt.keep {W W' : World} {g en pa : Nat} {v : Value} (h : RdrAt W g v en pa) (hk : W'.heap[g]? = W.heap[g]?) : RdrAt W' g v en pa := hk.trans h
theorem RdrAt.set0 {W : World} {g en pa : Nat} {v : Value} (h : RdrAt W g v en pa) (u : Value) : RdrAt (W.setCell ⟨g, 0, none⟩ u) g u en pa := by
 unfold RdrAt at h ⊢
 simp [World.setCell, Array.getElem?_modify, h]
theorem RdrAt.set2 {W : World} {g en pa : Nat} {v : Value} (h : RdrAt W g v en pa) (k : Nat) : RdrAt (W.setCell ⟨g, 2, none⟩ (.int .i64 k)) g v en k := by
 unfold RdrAt at h ⊢
 simp [World.setCell, Array.getElem?_modify, h]
structure RdS (W : World) (g : Nat) (ts : List Tok) (en pa : Nat) : Prop where
 ex : ∃ p n c, RdrAt W g (.slice p n c) en pa /\ Rd W g encTok 4 (.slice p n c) ts
theorem RdS.lt {W : World} {g en pa : Nat} {ts : List Tok} (h : RdS W g ts en pa) : g < W.heap.size := by
 obtain ⟨p, n, c, h1, _⟩ := h.ex
 exact h1.lt
theorem below_of {B : Nat} {w w' : World} {row : Option Nat} (h : w.grownBy w' row) (hb : B <= w.heap.size) (hr : ∀ k, row = some k -> B <= k) : Below B w w' := (Below.refl B w).grown h hb hr
theorem RdS.kept {W W' : World} {g en pa : Nat} {ts : List Tok} {row : Option Nat} (h : RdS W g ts en pa) (hg : W.grownBy W' row) (hr : ∀ k, row = some k -> g < k) : RdS W' g ts en pa := by
 have hl := h.lt
 obtain ⟨p, n, c, h1, h2⟩ := h.ex
 exact ⟨p, n, c, h1.keep (hg.block g hl (fun e => by have := hr g e.symm; omega)), h2.below (below_of hg (by omega) (fun k e => by have := hr k e; omega)) (Nat.le_refl _)⟩
theorem RdS.len {W : World} {g en pa : Nat} {ts : List Tok} (h : RdS W g ts en pa) : ∃ p c, RdrAt W g (.slice p ts.length c) en pa /\ Rd W g encTok 4 (.slice p ts.length c) ts /\ ts.length <= 9223372036854775807 := by
 obtain ⟨p, n, c, h1, h2⟩ := h.ex
 have hl := rd_nlen h2
 obtain ⟨p', c', hv, h3, h4⟩ := rd_lens h2
 simp only [Value.slice.injEq] at hv
 obtain ⟨rfl, rfl, rfl⟩ := hv
 exact ⟨p, c, h1, h2, by omega⟩
theorem is_any (t : Tok) (c : UInt8) (w : World) (b : Bool) (hb : isM t c = b) : Calls Tryz.prog 109 #[t.val, .string ⟨#[c]⟩] w fun e w' => e = .returned (.bool b) /\ Below w.heap.size w w' := by
 subst hb
 unfold isM
 obtain ⟨k, n, s, p⟩ := t
 dsimp only [Tok.val]
 by_cases h1 : k = 1
 ·subst h1
  by_cases h2 : s = ⟨#[c]⟩
  ·subst h2
   go_enter Tryz.func109, Tryz.ntmps109
   go_wp2_with fail
   go_ret
   exact ⟨by simp, (Below.refl _ _).alloc (Nat.le_refl _) _⟩
  ·have hq : (s.toList == (⟨#[c]⟩ : ByteArray).toList) = false := by rw [str_beq]; simpa using h2
   have HR : Hid ((decide ((1 : Int) = 1) && decide (s = ⟨#[c]⟩)) = false) := by simp [Hid, h2]
   rw [HR.out]
   clear h2
   obtain ⟨m, hm⟩ : ∃ m : ByteArray, ⟨#[c]⟩ = m := ⟨_, rfl⟩
   rw [hm] at hq ⊢
   clear HR hm
   go_enter Tryz.func109, Tryz.ntmps109
   go_wp2_with fail
   go_ret
   exact ⟨rfl, (Below.refl _ _).alloc (Nat.le_refl _) _⟩
 ·have HR : Hid ((decide (k = 1) && decide (s = ⟨#[c]⟩)) = false) := by simp [Hid, h1]
  rw [HR.out]
  have hq : (k == 1) = false := by simpa using h1
  clear h1 HR
  go_enter Tryz.func109, Tryz.ntmps109
  go_wp2_with fail
  go_ret
  exact ⟨rfl, (Below.refl _ _).alloc (Nat.le_refl _) _⟩
theorem _root_.Go.World.grownBy.keep_none {w w' : World} {row : Option Nat} (h : w.grownBy w' row) (g : Nat) (hg : g < w.heap.size) (hne : row ≠ some g := by (first | assumption | simp)) : w'.heap[g]? = w.heap[g]? := h.block g hg (fun e => hne e.symm)
theorem _root_.Go.World.grownBy.keep_some {w w1 w2 : World} {g : Nat} (h : w.grownBy w1 none) (h2 : w1.grownBy w2 (some g)) : w.grownBy w2 (some g) :=
 ⟨h2.os.trans h.os, h2.tape.trans h.tape, h2.output.trans h.output, Nat.le_trans h.size h2.size, fun k hk hne => (h2.block k (Nat.lt_of_lt_of_le hk h.size) hne).trans (h.block k hk (by simp))⟩
theorem _root_.Go.World.grownBy.new_row {w w1 w2 : World} {row : Option Nat} {x : Nat} (h : w.grownBy w1 row) (h2 : w1.grownBy w2 (some x)) (hx : w.heap.size <= x) : w.grownBy w2 row :=
 ⟨h2.os.trans h.os, h2.tape.trans h.tape, h2.output.trans h.output, Nat.le_trans h.size h2.size, fun k hk hne => (h2.block k (Nat.lt_of_lt_of_le hk h.size) (fun e => by cases e; omega)).trans (h.block k hk hne)⟩
def NxtRet (w : World) (g : Nat) (t : Tok) (ts : List Tok) (en pa : Nat) (e : Ending) (w' : World) : Prop := e = .returned t.val /\ RdS w' g ts en pa /\ w.grownBy w' (some g)
theorem next_any (w : World) (g en pa : Nat) (t : Tok) (ts : List Tok) (h : RdS w g (t :: ts) en pa) : Calls Tryz.prog 71 #[.pointer (some ⟨g, 0, none⟩)] w (NxtRet w g t ts en pa) := by
 obtain ⟨p, c, h1, h2, h3⟩ := h.len
 have hgl := h1.lt
 obtain ⟨N, hN⟩ : ∃ N, (t :: ts).length = N := ⟨_, rfl⟩
 rw [hN] at h1 h2 h3
 have hN1 : 1 <= N := by rw [<- hN]; simp
 have hr0 := h2
 obtain ⟨v1, hrun, hr1⟩ := slice_l slTk hr0 1 hN1
 obtain ⟨q1, n1, c1, rfl⟩ : ∃ q n c, v1 = Value.slice q n c := (by obtain ⟨p, c, hv, _, _⟩ := rd_lens hr1; exact ⟨p, _, c, hv⟩)
 rw [List.drop_one, List.tail_cons] at hr1
 obtain ⟨b, o, rfl, hb, hc0⟩ := rd_at' (k := 0) h2 (x := t) rfl
 rw [Nat.zero_mul, Nat.add_zero] at hc0
 obtain ⟨tk, tn, tS, tp⟩ := t
 have f0 : w.cell? ⟨b, o, none⟩ = some (.int .i64 tk) := hc0 0 _ rfl
 have f1 : w.cell? ⟨b, o + 1, none⟩ = some (.int .i64 tn) := hc0 1 _ rfl
 have f2 : w.cell? ⟨b, o + 2, none⟩ = some (.string tS) := hc0 2 _ rfl
 have f3 : w.cell? ⟨b, o + 3, none⟩ = some (.int .i64 tp) := hc0 3 _ rfl
 have c0 := h1.cell 0 rfl
 have z0 := h1.frozen 0
 have e0 : ((N : Int) == 0) = false := by simp; omega
 have e1 : (0 : Int) < (N : Int) := by omega
 have HR1 := Lib.hid hr1
 have H1 := Lib.hid h1
 clear hr0 hr1 h2 hc0 h1 hN h
 have hg0 := World.grownBy_alloc w (.cells #[.int .i64 0, .int .i64 0, .string ⟨#[]⟩, .int .i64 0] 121) none
 have hT0 : TokAt (w.alloc (.cells #[.int .i64 0, .int .i64 0, .string ⟨#[]⟩, .int .i64 0] 121)) w.heap.size Tok.zero := heap_alloc_at rfl
 have hs0 : (w.alloc (.cells #[.int .i64 0, .int .i64 0, .string ⟨#[]⟩, .int .i64 0] 121)).heap.size = w.heap.size + 1 := by simp
 have k0 : ∀ b o, b < w.heap.size -> (w.alloc (.cells #[.int .i64 0, .int .i64 0, .string ⟨#[]⟩, .int .i64 0] 121)).cell? ⟨b, o, none⟩ = w.cell? ⟨b, o, none⟩ := fun b o hb => ((Below.refl w.heap.size w).alloc (Nat.le_refl _) _).cell (p := ⟨b, o, none⟩) hb
 go_enter Tryz.func71, Tryz.ntmps71
 go_upto_region 1 with fail
 obtain ⟨W0, hW0⟩ : ∃ W0, w.alloc (.cells #[.int .i64 0, .int .i64 0, .string ⟨#[]⟩, .int .i64 0] 121) = W0 := ⟨_, rfl⟩
 rw [hW0] at hg0 hT0 hs0 k0
 try rw [hW0]
 clear hW0
 have p0 := (k0 g 0 hgl).trans c0
 have g0 := (k0 b o (by omega)).trans f0
 have g1 := (k0 b (o + 1) (by omega)).trans f1
 have g2 := (k0 b (o + 2) (by omega)).trans f2
 have g3 := (k0 b (o + 3) (by omega)).trans f3
 have hrun1 : ∀ W, (Instr.sliceAt 110 (.slice (some ⟨b, o, none⟩) N c) (some (.int .i64 1)) none none).run Tryz.prog W = .ok (.slice q1 n1 c1) W := hrun
 have HG0 := Lib.hid hg0
 have HT0 := Lib.hid hT0
 have HS0 := Lib.hid hs0
 have hgW : g < W0.heap.size := by omega
 clear c0 f0 f1 f2 f3 k0 hrun hg0 hT0 hs0 z0
 have hg1 := World.grownBy_alloc W0 (.cells #[.int .i64 tk, .int .i64 tn, .string tS, .int .i64 tp] 121) none
 have hT1 : TokAt (W0.alloc (.cells #[.int .i64 tk, .int .i64 tn, .string tS, .int .i64 tp] 121)) W0.heap.size ⟨tk, tn, tS, tp⟩ := heap_alloc_at rfl
 have hT2 : TokAt (W0.alloc (.cells #[.int .i64 tk, .int .i64 tn, .string tS, .int .i64 tp] 121)) w.heap.size Tok.zero := HT0.out.keep (hg1.keep_none _ HT0.out.lt)
 have hR1 : RdrAt (W0.alloc (.cells #[.int .i64 tk, .int .i64 tn, .string tS, .int .i64 tp] 121)) g (.slice (some ⟨b, o, none⟩) N c) en pa := (H1.out.keep (HG0.out.keep_none g (by omega))).keep (hg1.keep_none g hgW)
 go_upto_region 4 with fail
 have hz1 : (W0.alloc (.cells #[.int .i64 tk, .int .i64 tn, .string tS, .int .i64 tp] 121)).heap.size = w.heap.size + 2 := by have := HS0.out; simp; omega
 have hg1' := HG0.out.trans hg1
 obtain ⟨q0, hq0⟩ : ∃ q, W0.heap.size = q := ⟨_, rfl⟩
 have hqn : g ≠ q0 /\ w.heap.size ≠ q0 /\ g ≠ w.heap.size := by have := HS0.out; omega
 obtain ⟨W1, hW1⟩ : ∃ W1, W0.alloc (.cells #[.int .i64 tk, .int .i64 tn, .string tS, .int .i64 tp] 121) = W1 := ⟨_, rfl⟩
 rw [hW1] at hT1 hT2 hR1 hz1 hg1'
 rw [hq0] at hT1
 try rw [hW1]
 try rw [hq0]
 clear hg1 hW1 hq0 p0 g0 g1 g2 g3 HT0
 have p0 := hR1.cell 0 rfl
 have z0 := hR1.frozen 0
 have hR2 := hR1.set0 (.slice q1 n1 c1)
 have hg2 := grownBy_set W1 g 0 (.slice q1 n1 c1)
 have hT3 := hT1.keep (hg2.block q0 hT1.lt (by simp; omega))
 have hT4 := hT2.keep (hg2.block w.heap.size hT2.lt (by simp; omega))
 go_upto_region 5 with fail
 obtain ⟨W2, hW2⟩ : ∃ W2, W1.setCell ⟨g, 0, none⟩ (.slice q1 n1 c1) = W2 := ⟨_, rfl⟩
 rw [hW2] at hR2 hg2 hT3 hT4
 try rw [hW2]
 clear hW2 p0 z0 hrun1
 have a0 := hT3.cell 0 rfl
 have a1 := hT3.cell 1 rfl
 have a2 := hT3.cell 2 rfl
 have a3 := hT3.cell 3 rfl
 have b0 := hT4.cell 0 rfl
 have b1 := hT4.cell 1 rfl
 have b2 := hT4.cell 2 rfl
 have b3 := hT4.cell 3 rfl
 have y0 := hT4.frozen 0
 have y1 := hT4.frozen 1
 have y2 := hT4.frozen 2
 have y3 := hT4.frozen 3
 dsimp only [Tok.zero] at a0 a1 a2 a3 b0 b1 b2 b3
 have HR2 := Lib.hid hR2
 have HG2 := Lib.hid (hg1'.keep_some hg2)
 have HZ1 := Lib.hid hz1
 have HS2 := Lib.hid hg2.size
 clear hT1 hT2 hT3 hT4 hR1 hg1' hg2 hR2 hz1
 go_wp2_with fail
 refine bodyPost_ret (v := Tok.val ⟨tk, tn, tS, tp⟩) (by simp [results, Tryz.results71, go_sem, b0, b1, b2, b3]) rfl ⟨rfl, ?_, ?_⟩
 ·have hg3 := grownBy_setT W2 w.heap.size ⟨tk, tn, tS, tp⟩
  obtain ⟨p', n', c', h1, h2⟩ := (⟨_, _, _, HR2.out, (HR1.out.below (below_of HG2.out (by omega) (fun k e => by cases e; exact Nat.le_refl _)) (Nat.le_refl _))⟩ : ∃ p n c, RdrAt W2 g (.slice p n c) en pa /\ Rd W2 g encTok 4 (.slice p n c) ts)
  exact RdS.kept ⟨p', n', c', h1, h2⟩ hg3 (fun k e => by cases e; exact hgl)
 ·exact HG2.out.new_row (grownBy_setT W2 w.heap.size ⟨tk, tn, tS, tp⟩) (Nat.le_refl _)
theorem peek_any (w : World) (g en pa : Nat) (t : Tok) (ts : List Tok) (c : UInt8) (b : Bool) (h : RdS w g (t :: ts) en pa) (hb : isM t c = b) : Calls Tryz.prog 136 #[.pointer (some ⟨g, 0, none⟩), .string ⟨#[c]⟩] w fun e w' => e = .returned (.bool b) /\ Below w.heap.size w w' := by
 have HI : Hid (∀ W, Calls Tryz.prog 109 #[t.val, .string ⟨#[c]⟩] W fun e w' => e = .returned (.bool b) /\ Below W.heap.size W w') := fun W => is_any t c W b hb
 obtain ⟨p, cp, h1, h2, h3⟩ := h.len
 have hgl := h1.lt
 obtain ⟨N, hN⟩ : ∃ N, (t :: ts).length = N := ⟨_, rfl⟩
 rw [hN] at h1 h2 h3
 have hN1 : 1 <= N := by rw [<- hN]; simp
 obtain ⟨bb, o, rfl, hbb, hc0⟩ := rd_at' (k := 0) h2 (x := t) rfl
 rw [Nat.zero_mul, Nat.add_zero] at hc0
 obtain ⟨tk, tn, tS, tp⟩ := t
 have f0 : w.cell? ⟨bb, o, none⟩ = some (.int .i64 tk) := hc0 0 _ rfl
 have f1 : w.cell? ⟨bb, o + 1, none⟩ = some (.int .i64 tn) := hc0 1 _ rfl
 have f2 : w.cell? ⟨bb, o + 2, none⟩ = some (.string tS) := hc0 2 _ rfl
 have f3 : w.cell? ⟨bb, o + 3, none⟩ = some (.int .i64 tp) := hc0 3 _ rfl
 have c0 := h1.cell 0 rfl
 have e0 : decide (0 < N) = true := by simp; omega
 have e1 : (0 : Int) < (N : Int) := by omega
 have e2 : 0 < N := hN1
 clear h1 h2 hc0 hN h hb
 obtain ⟨m, hm⟩ : ∃ m : ByteArray, ⟨#[c]⟩ = m := ⟨_, rfl⟩
 rw [hm] at HI ⊢
 clear hm
 go_enter Tryz.func136, Tryz.ntmps136
 go_wp2_with (go_at_call 109; refine (HI.out _).mono ?_; rintro e w1 ⟨rfl, hb1⟩)
 go_ret
 exact ⟨rfl, hb1⟩
theorem RdS.cell2 {W : World} {g en pa : Nat} {ts : List Tok} (h : RdS W g ts en (pa + 1)) : W.cell? ⟨g, 2, none⟩ = some (.int .i64 ((pa : Int) + 1)) := by
 obtain ⟨p, n, c, h1, _⟩ := h.ex
 exact h1.cell 2 rfl
theorem lit_null : (⟨#[110, 117, 108, 108]⟩ : ByteArray).toList = [110, 117, 108, 108] := by rw [ByteArray.toList_eq]
theorem lit_true : (⟨#[116, 114, 117, 101]⟩ : ByteArray).toList = [116, 114, 117, 101] := by rw [ByteArray.toList_eq]
def ValR (w : World) (g : Nat) (v : JV) (ts : List Tok) (en pa : Nat) (e : Ending) (w' : World) : Prop := ∃ r : RV, e = .returned (RV.val r) /\ TreeS w' (Fresh w w') v r /\ RdS w' g ts en pa /\ w.grownBy w' (some g)
theorem VAt.setK {W : World} {g : Nat} {r : RV} (h : VAt W g r) (k : Int) : VAt (W.setCell ⟨g, 0, none⟩ (.int .i64 k)) g { r with k := k } := by
 unfold VAt at h ⊢
 simp [World.setCell, Array.getElem?_modify, h]
theorem VAt.setN {W : World} {g : Nat} {r : RV} (h : VAt W g r) (k : Int) : VAt (W.setCell ⟨g, 1, none⟩ (.int .i64 k)) g { r with n := k } := by
 unfold VAt at h ⊢
 simp [World.setCell, Array.getElem?_modify, h]
theorem VAt.setLs {W : World} {g : Nat} {r : RV} (h : VAt W g r) (p : Option Addr) (n c : Nat) : VAt (W.setCell ⟨g, 3, none⟩ (.slice p n c)) g { r with pl := p, nl := n, cl := c } := by
 unfold VAt at h ⊢
 simp [World.setCell, Array.getElem?_modify, h]
theorem VAt.setMs {W : World} {g : Nat} {r : RV} (h : VAt W g r) (p : Option Addr) (n c : Nat) : VAt (W.setCell ⟨g, 4, none⟩ (.slice p n c)) g { r with pm := p, nm := n, cm := c } := by
 unfold VAt at h ⊢
 simp [World.setCell, Array.getElem?_modify, h]
theorem VAt.keep {W W' : World} {g : Nat} {r : RV} (h : VAt W g r) (hk : W'.heap[g]? = W.heap[g]?) : VAt W' g r := hk.trans h
theorem RdrAt.set2' {W : World} {g en pa : Nat} {v : Value} (h : RdrAt W g v en pa) (x : Int) (k : Nat) (hx : x = k) : RdrAt (W.setCell ⟨g, 2, none⟩ (.int .i64 x)) g v en k := by subst hx; exact h.set2 k
def leafOf (t : Tok) : Option JV := if t.kind = 4 then some (.mk 4 0 t.s [] []) else if t.kind = 2 then if t.s = wNull then some (bareJ 1 0) else if t.s = wTrue then some (bareJ 2 1) else some (bareJ 2 0) else none
theorem leaf_cases {t : Tok} {v : JV} (h : leafOf t = some v) : (t.kind = 4 /\ v = .mk 4 0 t.s [] []) \/ (t.kind = 2 /\ t.s = wNull /\ v = .mk 1 0 ⟨#[]⟩ [] []) \/ (t.kind = 2 /\ t.s = wTrue /\ v = .mk 2 1 ⟨#[]⟩ [] []) \/ (t.kind = 2 /\ t.s ≠ wNull /\ t.s ≠ wTrue /\ v = .mk 2 0 ⟨#[]⟩ [] []) := by
 unfold leafOf at h
 split at h
 ·cases h; exact .inl ⟨‹_›, rfl⟩
 ·split at h
  ·split at h
   ·cases h; exact .inr (.inl ⟨‹_›, ‹_›, rfl⟩)
   ·split at h
    ·cases h; exact .inr (.inr (.inl ⟨‹_›, ‹_›, rfl⟩))
    ·cases h; exact .inr (.inr (.inr ⟨‹_›, ‹_›, ‹_›, rfl⟩))
  ·cases h
theorem value_leaf (w : World) (g en pa deep : Nat) (t : Tok) (ts : List Tok) (v : JV) (h : RdS w g ts en pa) (hd : deep <= 16) (hp : pa < 8192) (hv : leafOf t = some v) :
 Calls Tryz.prog 70 #[.pointer (some ⟨g, 0, none⟩), t.val, .int .i64 deep] w (ValR w g v ts en (pa + 1)) := by
 have hgl := h.lt
 have hlc := leaf_cases hv
 clear hv
 have hg0 := ((World.grownBy_alloc w t.obj none).trans (World.grownBy_alloc _ (.cells #[.int .i64 0, .int .i64 0, .string ⟨#[]⟩, .slice none 0 0, .slice none 0 0] 31) none)).trans (World.grownBy_alloc _ (.cells #[.int .i64 0, .int .i64 0, .string ⟨#[]⟩, .slice none 0 0, .slice none 0 0] 31) none)
 have hT0 : TokAt (((w.alloc t.obj).alloc (.cells #[.int .i64 0, .int .i64 0, .string ⟨#[]⟩, .slice none 0 0, .slice none 0 0] 31)).alloc (.cells #[.int .i64 0, .int .i64 0, .string ⟨#[]⟩, .slice none 0 0, .slice none 0 0] 31)) w.heap.size t := heap_alloc_lt (by simp; omega) (heap_alloc_lt (by simp) (heap_alloc_at rfl))
 have hV1 : VAt (((w.alloc t.obj).alloc (.cells #[.int .i64 0, .int .i64 0, .string ⟨#[]⟩, .slice none 0 0, .slice none 0 0] 31)).alloc (.cells #[.int .i64 0, .int .i64 0, .string ⟨#[]⟩, .slice none 0 0, .slice none 0 0] 31)) (w.heap.size + 1) RV.zero := heap_alloc_lt (by simp) (heap_alloc_at (by simp))
 have hV2 : VAt (((w.alloc t.obj).alloc (.cells #[.int .i64 0, .int .i64 0, .string ⟨#[]⟩, .slice none 0 0, .slice none 0 0] 31)).alloc (.cells #[.int .i64 0, .int .i64 0, .string ⟨#[]⟩, .slice none 0 0, .slice none 0 0] 31)) (w.heap.size + 1 + 1) RV.zero := heap_alloc_at (by simp)
 have hs0 : (((w.alloc t.obj).alloc (.cells #[.int .i64 0, .int .i64 0, .string ⟨#[]⟩, .slice none 0 0, .slice none 0 0] 31)).alloc (.cells #[.int .i64 0, .int .i64 0, .string ⟨#[]⟩, .slice none 0 0, .slice none 0 0] 31)).heap.size = w.heap.size + 3 := by simp
 have hR0 := h.kept hg0 (fun k e => by cases e)
 obtain ⟨tk, tn, tS, tp⟩ := t
 dsimp only [Tok.val, Tok.obj] at *
 clear h
 have d1 : ¬ (16 < (deep : Int)) := by omega
 have d2 : ¬ (16 < deep) := by omega
 have d3 : (deep : Int) <= 16 := by omega
 go_enter Tryz.func70, Tryz.ntmps70
 go_upto_region 3 with fail
 obtain ⟨W0, hW0⟩ : ∃ W0, ((w.alloc (.cells #[.int .i64 tk, .int .i64 tn, .string tS, .int .i64 tp] 121)).alloc (.cells #[.int .i64 0, .int .i64 0, .string ⟨#[]⟩, .slice none 0 0, .slice none 0 0] 31)).alloc (.cells #[.int .i64 0, .int .i64 0, .string ⟨#[]⟩, .slice none 0 0, .slice none 0 0] 31) = W0 := ⟨_, rfl⟩
 rw [hW0] at hg0 hT0 hV1 hV2 hs0 hR0
 try rw [hW0]
 clear hW0
 have a0 := hT0.cell 0 rfl
 have a2 := hT0.cell 2 rfl
 obtain ⟨v0, v1, v2, v3, v4⟩ := hV2.cells5
 have y0 := hV2.frozen 0
 have y1 := hV2.frozen 1
 have y2 := hV2.frozen 2
 have y3 := hV2.frozen 3
 have y4 := hV2.frozen 4
 dsimp only [RV.zero] at v0 v1 v2 v3 v4
 have HG0 := Lib.hid hg0
 have HV1 := Lib.hid hV1
 have HV2 := Lib.hid hV2
 have HR0 := Lib.hid hR0
 have HS0 := Lib.hid hs0
 clear hg0 hT0 hV1 hV2 hR0 hs0
 have KEY : ∀ (k n : Int) (s : ByteArray) (W1 : World), VAt W1 (w.heap.size + 1 + 1) ⟨k, n, s, none, 0, 0, none, 0, 0⟩ -> W0.grownBy W1 (some (w.heap.size + 1 + 1)) -> (VAt W1 (w.heap.size + 1) RV.zero /\ RdS W1 g ts en pa /\ w.grownBy W1 none) := by
  intro k n s W1 h1 h2
  have hs := HS0.out
  exact ⟨HV1.out.keep (h2.block _ HV1.out.lt (by simp)), HR0.out.kept h2 (fun k e => by cases e; omega), HG0.out.new_row h2 (by omega)⟩
 have HK := Lib.hid KEY
 clear KEY
 have FIN : ∀ (k n : Int) (s : ByteArray) (W1 : World), VAt W1 (w.heap.size + 1) RV.zero -> RdS W1 g ts en (pa + 1) -> w.grownBy W1 (some g) -> ValR w g (.mk k n s [] []) ts en (pa + 1) (.returned (RV.val ⟨k, n, s, none, 0, 0, none, 0, 0⟩)) (((((W1.setCell ⟨(w.heap.size + 1), 0, none⟩ (.int .i64 (⟨k, n, s, none, 0, 0, none, 0, 0⟩ : RV).k)).setCell ⟨(w.heap.size + 1), 1, none⟩ (.int .i64 (⟨k, n, s, none, 0, 0, none, 0, 0⟩ : RV).n)).setCell ⟨(w.heap.size + 1), 2, none⟩ (.string (⟨k, n, s, none, 0, 0, none, 0, 0⟩ : RV).s)).setCell ⟨(w.heap.size + 1), 3, none⟩ (.slice (⟨k, n, s, none, 0, 0, none, 0, 0⟩ : RV).pl (⟨k, n, s, none, 0, 0, none, 0, 0⟩ : RV).nl (⟨k, n, s, none, 0, 0, none, 0, 0⟩ : RV).cl)).setCell ⟨(w.heap.size + 1), 4, none⟩ (.slice (⟨k, n, s, none, 0, 0, none, 0, 0⟩ : RV).pm (⟨k, n, s, none, 0, 0, none, 0, 0⟩ : RV).nm (⟨k, n, s, none, 0, 0, none, 0, 0⟩ : RV).cm)) := by
  intro k n s W1 h1 h2 h3
  have hg := grownBy_set5 W1 (w.heap.size + 1) ⟨k, n, s, none, 0, 0, none, 0, 0⟩
  exact ⟨⟨k, n, s, none, 0, 0, none, 0, 0⟩, rfl, TreeS.leaf _ _ _ _ _, h2.kept hg (fun k e => by cases e; omega), h3.new_row hg (by omega)⟩
 have HF := Lib.hid FIN
 clear FIN
 rcases hlc with ⟨rfl, rfl⟩ | ⟨rfl, hw, rfl⟩ | ⟨rfl, hw, rfl⟩ | ⟨rfl, n1, n2, rfl⟩
 ·go_upto_region 17 with fail
  have hv : VAt (((((W0.setCell ⟨w.heap.size + 1 + 1, 0, none⟩ (.int .i64 4)).setCell ⟨w.heap.size + 1 + 1, 1, none⟩ (.int .i64 0)).setCell ⟨w.heap.size + 1 + 1, 2, none⟩ (.string tS)).setCell ⟨w.heap.size + 1 + 1, 3, none⟩ (.slice none 0 0)).setCell ⟨w.heap.size + 1 + 1, 4, none⟩ (.slice none 0 0)) (w.heap.size + 1 + 1) ⟨4, 0, tS, none, 0, 0, none, 0, 0⟩ := HV2.out.stored ⟨4, 0, tS, none, 0, 0, none, 0, 0⟩
  have hg : W0.grownBy (((((W0.setCell ⟨w.heap.size + 1 + 1, 0, none⟩ (.int .i64 4)).setCell ⟨w.heap.size + 1 + 1, 1, none⟩ (.int .i64 0)).setCell ⟨w.heap.size + 1 + 1, 2, none⟩ (.string tS)).setCell ⟨w.heap.size + 1 + 1, 3, none⟩ (.slice none 0 0)).setCell ⟨w.heap.size + 1 + 1, 4, none⟩ (.slice none 0 0)) (some (w.heap.size + 1 + 1)) := grownBy_set5 W0 _ ⟨4, 0, tS, none, 0, 0, none, 0, 0⟩
  obtain ⟨W1, hW1⟩ : ∃ W1, (((((W0.setCell ⟨w.heap.size + 1 + 1, 0, none⟩ (.int .i64 4)).setCell ⟨w.heap.size + 1 + 1, 1, none⟩ (.int .i64 0)).setCell ⟨w.heap.size + 1 + 1, 2, none⟩ (.string tS)).setCell ⟨w.heap.size + 1 + 1, 3, none⟩ (.slice none 0 0)).setCell ⟨w.heap.size + 1 + 1, 4, none⟩ (.slice none 0 0)) = W1 := ⟨_, rfl⟩
  rw [hW1] at hv hg
  try rw [hW1]
  clear hW1
  obtain ⟨h1, h2, h3⟩ := HK.out 4 0 tS W1 hv hg
  obtain ⟨p, nn, c, hr, hrd⟩ := h2.ex
  have c2 := hr.cell 2 rfl
  have z2 := hr.frozen 2
  have hgx := grownBy_set W1 g 2 (.int .i64 ((pa : Int) + 1))
  have hR3 : RdS (W1.setCell ⟨g, 2, none⟩ (.int .i64 ((pa : Int) + 1))) g ts en (pa + 1) := ⟨p, nn, c, hr.set2' _ _ (by omega), hrd.below (below_of hgx (by have := hr.lt; omega) (fun k e => by cases e; exact Nat.le_refl _)) (Nat.le_refl _)⟩
  have hV3 := h1.keep (hgx.block _ h1.lt (by simp; omega))
  have hV4 := hv.keep (hgx.block _ hv.lt (by simp; omega))
  have hG3 := h3.keep_some hgx
  go_upto_region 20 with fail
  have c3 := hR3.cell2
  obtain ⟨W2, hW2⟩ : ∃ W2, W1.setCell ⟨g, 2, none⟩ (.int .i64 ((pa : Int) + 1)) = W2 := ⟨_, rfl⟩
  rw [hW2] at hR3 hV3 hV4 hG3 c3
  try rw [hW2]
  clear hW2 c2 z2 v0 v1 v2 v3 v4 y0 y1 y2 y3 y4 a0 a2 hgx hr hrd h1 h2 h3 hv hg
  obtain ⟨v0, v1, v2, v3, v4⟩ := hV4.cells5
  obtain ⟨z0, z1, z2, z3, z4⟩ := hV3.cells5
  have y0 := hV3.frozen 0
  have y1 := hV3.frozen 1
  have y2 := hV3.frozen 2
  have y3 := hV3.frozen 3
  have y4 := hV3.frozen 4
  dsimp only [RV.zero] at v0 v1 v2 v3 v4 z0 z1 z2 z3 z4
  have HR3 := Lib.hid hR3
  have HV3 := Lib.hid hV3
  have HG3 := Lib.hid hG3
  clear hR3 hV3 hV4 hG3
  go_wp2_with fail
  exact bodyPost_ret (v := RV.val ⟨4, 0, tS, none, 0, 0, none, 0, 0⟩) (by simp [results, Tryz.results70, go_sem, z0, z1, z2, z3, z4]) rfl (HF.out 4 0 tS W2 HV3.out HR3.out HG3.out)
 ·obtain rfl : tS = ⟨#[110, 117, 108, 108]⟩ := hw
  go_upto_region 17 with fail
  have hv : VAt (W0.setCell ⟨w.heap.size + 1 + 1, 0, none⟩ (.int .i64 1)) (w.heap.size + 1 + 1) ⟨1, 0, ⟨#[]⟩, none, 0, 0, none, 0, 0⟩ := HV2.out.setK 1
  have hg : W0.grownBy (W0.setCell ⟨w.heap.size + 1 + 1, 0, none⟩ (.int .i64 1)) (some (w.heap.size + 1 + 1)) := grownBy_set _ _ _ _
  obtain ⟨W1, hW1⟩ : ∃ W1, (W0.setCell ⟨w.heap.size + 1 + 1, 0, none⟩ (.int .i64 1)) = W1 := ⟨_, rfl⟩
  rw [hW1] at hv hg
  try rw [hW1]
  clear hW1
  obtain ⟨h1, h2, h3⟩ := HK.out 1 0 ⟨#[]⟩ W1 hv hg
  obtain ⟨p, nn, c, hr, hrd⟩ := h2.ex
  have c2 := hr.cell 2 rfl
  have z2 := hr.frozen 2
  have hgx := grownBy_set W1 g 2 (.int .i64 ((pa : Int) + 1))
  have hR3 : RdS (W1.setCell ⟨g, 2, none⟩ (.int .i64 ((pa : Int) + 1))) g ts en (pa + 1) := ⟨p, nn, c, hr.set2' _ _ (by omega), hrd.below (below_of hgx (by have := hr.lt; omega) (fun k e => by cases e; exact Nat.le_refl _)) (Nat.le_refl _)⟩
  have hV3 := h1.keep (hgx.block _ h1.lt (by simp; omega))
  have hV4 := hv.keep (hgx.block _ hv.lt (by simp; omega))
  have hG3 := h3.keep_some hgx
  go_upto_region 20 with fail
  have c3 := hR3.cell2
  obtain ⟨W2, hW2⟩ : ∃ W2, W1.setCell ⟨g, 2, none⟩ (.int .i64 ((pa : Int) + 1)) = W2 := ⟨_, rfl⟩
  rw [hW2] at hR3 hV3 hV4 hG3 c3
  try rw [hW2]
  clear hW2 c2 z2 v0 v1 v2 v3 v4 y0 y1 y2 y3 y4 a0 a2 hgx hr hrd h1 h2 h3 hv hg
  obtain ⟨v0, v1, v2, v3, v4⟩ := hV4.cells5
  obtain ⟨z0, z1, z2, z3, z4⟩ := hV3.cells5
  have y0 := hV3.frozen 0
  have y1 := hV3.frozen 1
  have y2 := hV3.frozen 2
  have y3 := hV3.frozen 3
  have y4 := hV3.frozen 4
  dsimp only [RV.zero] at v0 v1 v2 v3 v4 z0 z1 z2 z3 z4
  have HR3 := Lib.hid hR3
  have HV3 := Lib.hid hV3
  have HG3 := Lib.hid hG3
  clear hR3 hV3 hV4 hG3
  go_wp2_with fail
  exact bodyPost_ret (v := RV.val ⟨1, 0, ⟨#[]⟩, none, 0, 0, none, 0, 0⟩) (by simp [results, Tryz.results70, go_sem, z0, z1, z2, z3, z4]) rfl (HF.out 1 0 ⟨#[]⟩ W2 HV3.out HR3.out HG3.out)
 ·obtain rfl : tS = ⟨#[116, 114, 117, 101]⟩ := hw
  go_upto_region 17 with fail
  have hv : VAt ((W0.setCell ⟨w.heap.size + 1 + 1, 0, none⟩ (.int .i64 2)).setCell ⟨w.heap.size + 1 + 1, 1, none⟩ (.int .i64 1)) (w.heap.size + 1 + 1) ⟨2, 1, ⟨#[]⟩, none, 0, 0, none, 0, 0⟩ := (HV2.out.setK 2).setN 1
  have hg : W0.grownBy ((W0.setCell ⟨w.heap.size + 1 + 1, 0, none⟩ (.int .i64 2)).setCell ⟨w.heap.size + 1 + 1, 1, none⟩ (.int .i64 1)) (some (w.heap.size + 1 + 1)) := (grownBy_set _ _ _ _).trans (grownBy_set _ _ _ _)
  obtain ⟨W1, hW1⟩ : ∃ W1, ((W0.setCell ⟨w.heap.size + 1 + 1, 0, none⟩ (.int .i64 2)).setCell ⟨w.heap.size + 1 + 1, 1, none⟩ (.int .i64 1)) = W1 := ⟨_, rfl⟩
  rw [hW1] at hv hg
  try rw [hW1]
  clear hW1
  obtain ⟨h1, h2, h3⟩ := HK.out 2 1 ⟨#[]⟩ W1 hv hg
  obtain ⟨p, nn, c, hr, hrd⟩ := h2.ex
  have c2 := hr.cell 2 rfl
  have z2 := hr.frozen 2
  have hgx := grownBy_set W1 g 2 (.int .i64 ((pa : Int) + 1))
  have hR3 : RdS (W1.setCell ⟨g, 2, none⟩ (.int .i64 ((pa : Int) + 1))) g ts en (pa + 1) := ⟨p, nn, c, hr.set2' _ _ (by omega), hrd.below (below_of hgx (by have := hr.lt; omega) (fun k e => by cases e; exact Nat.le_refl _)) (Nat.le_refl _)⟩
  have hV3 := h1.keep (hgx.block _ h1.lt (by simp; omega))
  have hV4 := hv.keep (hgx.block _ hv.lt (by simp; omega))
  have hG3 := h3.keep_some hgx
  go_upto_region 20 with fail
  have c3 := hR3.cell2
  obtain ⟨W2, hW2⟩ : ∃ W2, W1.setCell ⟨g, 2, none⟩ (.int .i64 ((pa : Int) + 1)) = W2 := ⟨_, rfl⟩
  rw [hW2] at hR3 hV3 hV4 hG3 c3
  try rw [hW2]
  clear hW2 c2 z2 v0 v1 v2 v3 v4 y0 y1 y2 y3 y4 a0 a2 hgx hr hrd h1 h2 h3 hv hg
  obtain ⟨v0, v1, v2, v3, v4⟩ := hV4.cells5
  obtain ⟨z0, z1, z2, z3, z4⟩ := hV3.cells5
  have y0 := hV3.frozen 0
  have y1 := hV3.frozen 1
  have y2 := hV3.frozen 2
  have y3 := hV3.frozen 3
  have y4 := hV3.frozen 4
  dsimp only [RV.zero] at v0 v1 v2 v3 v4 z0 z1 z2 z3 z4
  have HR3 := Lib.hid hR3
  have HV3 := Lib.hid hV3
  have HG3 := Lib.hid hG3
  clear hR3 hV3 hV4 hG3
  go_wp2_with fail
  exact bodyPost_ret (v := RV.val ⟨2, 1, ⟨#[]⟩, none, 0, 0, none, 0, 0⟩) (by simp [results, Tryz.results70, go_sem, z0, z1, z2, z3, z4]) rfl (HF.out 2 1 ⟨#[]⟩ W2 HV3.out HR3.out HG3.out)
 ·have q1 : (tS.toList == [110, 117, 108, 108]) = false := by rw [<- lit_null, str_beq]; exact decide_eq_false n1
  have q2 : (tS.toList == [116, 114, 117, 101]) = false := by rw [<- lit_true, str_beq]; exact decide_eq_false n2
  clear n1 n2
  go_upto_region 17 with fail
  have hv : VAt (W0.setCell ⟨w.heap.size + 1 + 1, 0, none⟩ (.int .i64 2)) (w.heap.size + 1 + 1) ⟨2, 0, ⟨#[]⟩, none, 0, 0, none, 0, 0⟩ := HV2.out.setK 2
  have hg : W0.grownBy (W0.setCell ⟨w.heap.size + 1 + 1, 0, none⟩ (.int .i64 2)) (some (w.heap.size + 1 + 1)) := grownBy_set _ _ _ _
  obtain ⟨W1, hW1⟩ : ∃ W1, (W0.setCell ⟨w.heap.size + 1 + 1, 0, none⟩ (.int .i64 2)) = W1 := ⟨_, rfl⟩
  rw [hW1] at hv hg
  try rw [hW1]
  clear hW1
  obtain ⟨h1, h2, h3⟩ := HK.out 2 0 ⟨#[]⟩ W1 hv hg
  obtain ⟨p, nn, c, hr, hrd⟩ := h2.ex
  have c2 := hr.cell 2 rfl
  have z2 := hr.frozen 2
  have hgx := grownBy_set W1 g 2 (.int .i64 ((pa : Int) + 1))
  have hR3 : RdS (W1.setCell ⟨g, 2, none⟩ (.int .i64 ((pa : Int) + 1))) g ts en (pa + 1) := ⟨p, nn, c, hr.set2' _ _ (by omega), hrd.below (below_of hgx (by have := hr.lt; omega) (fun k e => by cases e; exact Nat.le_refl _)) (Nat.le_refl _)⟩
  have hV3 := h1.keep (hgx.block _ h1.lt (by simp; omega))
  have hV4 := hv.keep (hgx.block _ hv.lt (by simp; omega))
  have hG3 := h3.keep_some hgx
  go_upto_region 20 with fail
  have c3 := hR3.cell2
  obtain ⟨W2, hW2⟩ : ∃ W2, W1.setCell ⟨g, 2, none⟩ (.int .i64 ((pa : Int) + 1)) = W2 := ⟨_, rfl⟩
  rw [hW2] at hR3 hV3 hV4 hG3 c3
  try rw [hW2]
  clear hW2 c2 z2 v0 v1 v2 v3 v4 y0 y1 y2 y3 y4 a0 a2 hgx hr hrd h1 h2 h3 hv hg
  obtain ⟨v0, v1, v2, v3, v4⟩ := hV4.cells5
  obtain ⟨z0, z1, z2, z3, z4⟩ := hV3.cells5
  have y0 := hV3.frozen 0
  have y1 := hV3.frozen 1
  have y2 := hV3.frozen 2
  have y3 := hV3.frozen 3
  have y4 := hV3.frozen 4
  dsimp only [RV.zero] at v0 v1 v2 v3 v4 z0 z1 z2 z3 z4
  have HR3 := Lib.hid hR3
  have HV3 := Lib.hid hV3
  have HG3 := Lib.hid hG3
  clear hR3 hV3 hV4 hG3
  go_wp2_with fail
  exact bodyPost_ret (v := RV.val ⟨2, 0, ⟨#[]⟩, none, 0, 0, none, 0, 0⟩) (by simp [results, Tryz.results70, go_sem, z0, z1, z2, z3, z4]) rfl (HF.out 2 0 ⟨#[]⟩ W2 HV3.out HR3.out HG3.out)
def ObjRet (w : World) (rms : List RM) (e : Ending) (w' : World) : Prop := ∃ p n c, e = .returned (RV.val ⟨6, 0, ⟨#[]⟩, none, 0, 0, p, n, c⟩) /\ Own w' w.heap.size 81 encM 6 (.slice p n c) rms /\ Below w.heap.size w w'
theorem object_any (rms : List RM) (p : Option Addr) (n c : Nat) (w : World) (hr : Rd w w.heap.size encM 6 (.slice p n c) rms) (hl : rms.length <= 100000) : Calls Tryz.prog 34 #[.slice p n c] w (ObjRet w rms) := by
 have hZ0 : VAt (w.alloc (.cells #[.int .i64 0, .int .i64 0, .string ⟨#[]⟩, .slice none 0 0, .slice none 0 0] 31)) w.heap.size RV.zero := heap_alloc_at rfl
 have hB0 : Below w.heap.size w (w.alloc (.cells #[.int .i64 0, .int .i64 0, .string ⟨#[]⟩, .slice none 0 0, .slice none 0 0] 31)) := (Below.refl _ _).alloc (Nat.le_refl _) _
 have HR := Lib.hid hr
 clear hr
 go_enter Tryz.func34, Tryz.ntmps34
 go_upto_region 1 with fail
 obtain ⟨W0, hW0⟩ : ∃ W0, (w.alloc (.cells #[.int .i64 0, .int .i64 0, .string ⟨#[]⟩, .slice none 0 0, .slice none 0 0] 31)) = W0 := ⟨_, rfl⟩
 rw [hW0] at hZ0 hB0 ⊢
 clear hW0
 have hC : Hid (Calls Tryz.prog 82 #[.slice p n c] W0 fun e w' => ∃ p' c', e = .returned (.slice p' n c') /\ Own w' W0.heap.size 81 encM 6 (.slice p' n c') rms /\ VAt w' w.heap.size RV.zero /\ Below w.heap.size w w') :=
  (cloneM_any codecM W0 p n c rms (HR.out.below hB0 hB0.size) (by omega)).mono (fun e w' h => by
   obtain ⟨p', c', he, _, ho, hb⟩ := h
   exact ⟨p', c', he, ho, hZ0.under hb hZ0.lt, hB0.trans (hb.mono hB0.size)⟩)
 have hsz := hZ0.lt
 clear hZ0 hB0
 go_upto_region 2 with (go_at_call 82; refine hC.out.mono ?_; rintro e w1 ⟨p', c', rfl, ho, hz, hb⟩; (have y0 := hz.frozen 0); (have y1 := hz.frozen 1); (have y2 := hz.frozen 2); (have y3 := hz.frozen 3); (have y4 := hz.frozen 4); (obtain ⟨z0, z1, z2, z3, z4⟩ := hz.cells5); (dsimp only [RV.zero] at z0 z1 z2 z3 z4); (have HO := Lib.hid ho); (have HB := Lib.hid hb); clear ho hb hz)
 refine bodyPost_ret (v := RV.val ⟨6, 0, ⟨#[]⟩, none, 0, 0, p', n, c'⟩) (by simp [results, Tryz.results34, go_sem, z0, z1, z2, z3, z4]) rfl ⟨p', n, c', rfl, ?_, Below.stored HB.out (Nat.le_refl _) ⟨6, 0, ⟨#[]⟩, none, 0, 0, p', n, c'⟩⟩
 exact (HO.out.kept (grownBy_set5 w1 w.heap.size ⟨6, 0, ⟨#[]⟩, none, 0, 0, p', n, c'⟩) (.inr (fun e => by have := (HO.out.lt _ e).1; omega))).mono (by omega)
theorem addV_any (k : Int) (m : Int) (s : ByteArray) (pl : Option Addr) (nl cl : Nat) (p : Option Addr) (n c : Nat) (rms : List RM) (name : ByteArray) (x : RV) (w : World) (hr : Rd w w.heap.size encM 6 (.slice p n c) rms) (hl : rms.length <= 100000) :
 Calls Tryz.prog 18 #[RV.val ⟨k, m, s, pl, nl, cl, p, n, c⟩, .string name, RV.val x] w (ObjRet w (rms ++ [⟨name, x⟩])) := by
 obtain ⟨xk, xn, xs, xpl, xnl, xcl, xpm, xnm, xcm⟩ := x
 obtain ⟨W0, hW0⟩ : ∃ W0, (((w.alloc (.cells #[.int .i64 k, .int .i64 m, .string s, .slice pl nl cl, .slice p n c] 31)).alloc (.cells #[.int .i64 xk, .int .i64 xn, .string xs, .slice xpl xnl xcl, .slice xpm xnm xcm] 31)).alloc (.cells #[.int .i64 0, .int .i64 0, .string ⟨#[]⟩, .slice none 0 0, .slice none 0 0] 31)).alloc (.cells #[.int .i64 6, .int .i64 0, .string ⟨#[]⟩, .slice none 0 0, .slice none 0 0] 31) = W0 := ⟨_, rfl⟩
 have hA0 : VAt W0 w.heap.size ⟨k, m, s, pl, nl, cl, p, n, c⟩ := by rw [<- hW0]; exact heap_alloc_lt (by simp; omega) (heap_alloc_lt (by simp; omega) (heap_alloc_lt (by simp) (heap_alloc_at rfl)))
 have hX0 : VAt W0 (w.heap.size + 1) ⟨xk, xn, xs, xpl, xnl, xcl, xpm, xnm, xcm⟩ := by rw [<- hW0]; exact heap_alloc_lt (by simp) (heap_alloc_lt (by simp) (heap_alloc_at (by simp)))
 have hZ0 : VAt W0 (w.heap.size + 1 + 1) RV.zero := by rw [<- hW0]; exact heap_alloc_lt (by simp) (heap_alloc_at (by simp))
 have hV0 : VAt W0 (w.heap.size + 1 + 1 + 1) ⟨6, 0, ⟨#[]⟩, none, 0, 0, none, 0, 0⟩ := by rw [<- hW0]; exact heap_alloc_at (by simp)
 have hB0 : Below w.heap.size w W0 := by rw [<- hW0]; exact ((below2 w _ _).alloc (by simp; omega) _).alloc (by simp; omega) _
 have HR := Lib.hid (hr.below hB0 hB0.size)
 have HW := Lib.hid hW0
 clear hr hW0
 go_enter Tryz.func18, Tryz.ntmps18
 go_upto_region 2 with fail
 rw [HW.out]
 clear HW
 have HA := Lib.hid hA0
 have HX := Lib.hid hX0
 have HZ := Lib.hid hZ0
 have HV := Lib.hid hV0
 have HB := Lib.hid hB0
 have a4 := hA0.cell 4 rfl
 have v4 := hV0.cell 4 rfl
 dsimp only at a4 v4
 have hz := hV0.lt
 clear hA0 hX0 hZ0 hV0 hB0
 have hnil : Own W0 W0.heap.size 81 encM 6 (.slice none 0 0) ([] : List RM) := Own.nil _ _ _
 go_upto_region 3 with (at_builtin; refine wpList_append_rd slM codecM W0 rfl (.tmp 10) (.tmp 12) rfl (v := .slice none 0 0) rfl rfl hnil HR.out (by simp only [List.length_nil]; unfold maxLen; omega) (by simp only [List.length_nil]; omega) (Nat.le_refl _) ?_; intro v1 w1 ho1 hg1 hat1; obtain ⟨p1, n1, c1, rfl⟩ : ∃ p n c, v1 = Value.slice p n c := (by obtain ⟨p, c, hv, _, _⟩ := ho1.len; exact ⟨p, _, c, hv⟩); (have hV1 := HV.out.keep (hg1.block _ hz (by simp [Value.ownBlock]))); (have y14 := hV1.frozen 4); (have c14 := hV1.cell 4 rfl); dsimp only at c14; (have HG1 := Lib.hid hg1); (have HO1 := Lib.hid ho1); (have HV1 := Lib.hid hV1); clear ho1 hg1 hat1 hV1)
 have hg2 : W0.grownBy (w1.setCell ⟨w.heap.size + 1 + 1 + 1, 4, none⟩ (.slice p1 n1 c1)) (some (w.heap.size + 1 + 1 + 1)) := by
  have h1 := HG1.out
  have h2 := grownBy_set w1 (w.heap.size + 1 + 1 + 1) 4 (.slice p1 n1 c1)
  exact ⟨h2.os.trans h1.os, h2.tape.trans h1.tape, h2.output.trans h1.output, Nat.le_trans h1.size h2.size, fun k hk hne => (h2.block k (Nat.lt_of_lt_of_le hk h1.size) hne).trans (h1.block k hk (by simp [Value.ownBlock]))⟩
 have hV2 := HV1.out.setMs p1 n1 c1
 have hX2 := HX.out.keep (hg2.block _ HX.out.lt (by simp))
 have hZ2 := HZ.out.keep (hg2.block _ HZ.out.lt (by simp))
 have ho2 := HO1.out.kept (grownBy_set w1 (w.heap.size + 1 + 1 + 1) 4 (.slice p1 n1 c1)) (.inr (fun e => by have := (HO1.out.lt _ e).1; omega))
 rw [List.nil_append] at ho2
 have hb2 : Below w.heap.size w (w1.setCell ⟨w.heap.size + 1 + 1 + 1, 4, none⟩ (.slice p1 n1 c1)) := HB.out.grown hg2 HB.out.size (fun k e => by cases e; omega)
 obtain ⟨W2, hW2⟩ : ∃ W, w1.setCell ⟨w.heap.size + 1 + 1 + 1, 4, none⟩ (.slice p1 n1 c1) = W := ⟨_, rfl⟩
 rw [hW2] at hV2 hX2 hZ2 ho2 hb2 hg2 ⊢
 have hz0 : W0.heap.size <= W2.heap.size := hg2.size
 clear hW2 HV1 HO1 HG1 y14 c14 HA HX HZ HV HB a4 v4 hnil HR
 have v4 := hV2.cell 4 rfl
 dsimp only at v4
 obtain ⟨x0, x1, x2, x3, x4⟩ := hX2.cells5
 dsimp only at x0 x1 x2 x3 x4
 have HV2 := Lib.hid hV2
 have HZ2 := Lib.hid hZ2
 have HB2 := Lib.hid hb2
 have HO2 := Lib.hid (ho2.alloc (.cells #[.string name, .int .i64 xk, .int .i64 xn, .string xs, .slice xpl xnl xcl, .slice xpm xnm xcm] 81))
 have HRM : Hid (Rd (W2.alloc (.cells #[.string name, .int .i64 xk, .int .i64 xn, .string xs, .slice xpl xnl xcl, .slice xpm xnm xcm] 81)) (W2.heap.size + 1) encM 6 (.slice (some ⟨W2.heap.size, 0, none⟩) 1 1) [(⟨name, ⟨xk, xn, xs, xpl, xnl, xcl, xpm, xnm, xcm⟩⟩ : RM)]) := Rd.one codecM (heap_alloc_new _ _) rfl (by omega)
 clear hV2 hX2 hZ2 ho2 hb2 hg2
 have hz2 := HV2.out.lt
 have hz3 := HZ2.out.lt
 have HPK : Hid (∀ (w3 : World) (_ : Unit), (W2.alloc (.cells #[.string name, .int .i64 xk, .int .i64 xn, .string xs, .slice xpl xnl xcl, .slice xpm xnm xcm] 81)).grownBy w3 (Value.slice p1 n1 c1).ownBlock -> VAt w3 (w.heap.size + 1 + 1 + 1) ⟨6, 0, ⟨#[]⟩, none, 0, 0, p1, n1, c1⟩ /\ VAt w3 (w.heap.size + 1 + 1) RV.zero /\ Below w.heap.size w w3) := fun w3 _ hg3 =>
  ⟨(show VAt (W2.alloc (.cells #[.string name, .int .i64 xk, .int .i64 xn, .string xs, .slice xpl xnl xcl, .slice xpm xnm xcm] 81)) _ _ from heap_alloc_lt hz2 HV2.out).keep (hg3.block _ (by simp; omega) (fun e => by have := (HO2.out.lt _ e.symm).1; omega)),
   (show VAt (W2.alloc (.cells #[.string name, .int .i64 xk, .int .i64 xn, .string xs, .slice xpl xnl xcl, .slice xpm xnm xcm] 81)) _ _ from heap_alloc_lt hz3 HZ2.out).keep (hg3.block _ (by simp; omega) (fun e => by have := (HO2.out.lt _ e.symm).1; omega)),
   Below.appended (HB2.out.alloc HB2.out.size _) hg3 (HO2.out.mono (by omega)) (by simp; omega)⟩
 go_upto_region 4 with (at_builtin; refine wpList_append_rd slM codecM (W2.alloc (.cells #[.string name, .int .i64 xk, .int .i64 xn, .string xs, .slice xpl xnl xcl, .slice xpm xnm xcm] 81)) rfl (.tmp 16) (.tmp 20) rfl (v := .slice p1 n1 c1) rfl rfl HO2.out HRM.out (by simp only [List.length_singleton]; unfold maxLen; omega) (by simp only [List.length_singleton]; omega) (by simp; omega) ?_; intro v3 w3 ho3 hg3 hat3; obtain ⟨p3, n3, c3, rfl⟩ : ∃ p n c, v3 = Value.slice p n c := (by obtain ⟨p, c, hv, _, _⟩ := ho3.len; exact ⟨p, _, c, hv⟩); obtain ⟨hV3, hZ3, hb3⟩ := HPK.out _ () hg3; (have y34 := hV3.frozen 4); (have c34 := hV3.cell 4 rfl); dsimp only at c34; (have HO3 := Lib.hid ho3); (have HV3 := Lib.hid hV3); (have HZ3 := Lib.hid hZ3); (have HB3 := Lib.hid hb3); clear ho3 hg3 hat3 hV3 hZ3 hb3)
 have hV4 := HV3.out.setMs p3 n3 c3
 have hZ4 : VAt (w3.setCell ⟨w.heap.size + 1 + 1 + 1, 4, none⟩ (.slice p3 n3 c3)) (w.heap.size + 1 + 1) RV.zero := HZ3.out.keep ((grownBy_set w3 (w.heap.size + 1 + 1 + 1) 4 _).block _ HZ3.out.lt (by simp))
 have ho4 := HO3.out.kept (grownBy_set w3 (w.heap.size + 1 + 1 + 1) 4 (.slice p3 n3 c3)) (.inr (fun e => by have := (HO3.out.lt _ e).1; omega))
 have hb4 := HB3.out.setCell (by omega : w.heap.size <= w.heap.size + 1 + 1 + 1) (p := ⟨w.heap.size + 1 + 1 + 1, 4, none⟩) (.slice p3 n3 c3)
 obtain ⟨W4, hW4⟩ : ∃ W, w3.setCell ⟨w.heap.size + 1 + 1 + 1, 4, none⟩ (.slice p3 n3 c3) = W := ⟨_, rfl⟩
 rw [hW4] at hV4 hZ4 ho4 hb4 ⊢
 clear hW4 HV3 HZ3 HO3 HB3 y34 c34 x0 x1 x2 x3 x4 v4
 obtain ⟨v0, v1, v2, v3, v4⟩ := hV4.cells5
 obtain ⟨z0, z1, z2, z3, z4⟩ := hZ4.cells5
 have y0 := hZ4.frozen 0
 have y1 := hZ4.frozen 1
 have y2 := hZ4.frozen 2
 have y3 := hZ4.frozen 3
 have y4 := hZ4.frozen 4
 dsimp only [RV.zero] at v0 v1 v2 v3 v4 z0 z1 z2 z3 z4
 have HO4 := Lib.hid ho4
 have HB4 := Lib.hid hb4
 clear hV4 hZ4 ho4 hb4
 go_wp2_with fail
 refine bodyPost_ret (v := RV.val ⟨6, 0, ⟨#[]⟩, none, 0, 0, p3, n3, c3⟩) (by simp [results, Tryz.results18, go_sem, z0, z1, z2, z3, z4]) rfl ⟨p3, n3, c3, rfl, ?_, Below.stored HB4.out (by omega) ⟨6, 0, ⟨#[]⟩, none, 0, 0, p3, n3, c3⟩⟩
 exact (HO4.out.kept (grownBy_set5 W4 (w.heap.size + 1 + 1) ⟨6, 0, ⟨#[]⟩, none, 0, 0, p3, n3, c3⟩) (.inr (fun e => by have := (HO4.out.lt _ e).1; omega))).mono (by omega)
structure ShowS (Ws : World) (B b0 o : Nat) (ms : List (ByteArray × JV)) (p : Option Addr) (n c : Nat) (W : World) : Prop where
 out : VAt W o ⟨6, 0, ⟨#[]⟩, none, 0, 0, p, n, c⟩
 zero : VAt W b0 RV.zero
 own : ∃ rms, Own W (b0 + 1) 81 encM 6 (.slice p n c) rms /\ MemsOf W B ms rms
 no : (Value.slice p n c).ownBlock ≠ some o
 below : Below b0 Ws W
theorem ShowS.step {Ws W W' : World} {B b0 o : Nat} {ms : List (ByteArray × JV)} {p : Option Addr} {n c : Nat} (h : ShowS Ws B b0 o ms p n c W) (hB : B <= b0) (hb : Below W.heap.size W W') : ShowS Ws B b0 o ms p n c W' := by
 obtain ⟨rms, h1, h2⟩ := h.own
 have := h.zero.lt
 exact ⟨h.out.under hb h.out.lt, h.zero.under hb h.zero.lt, ⟨rms, h1.below hb (Nat.le_refl _), h2.under (hb.mono (by omega)) (Nat.le_refl _)⟩, h.no, h.below.trans (hb.mono (by omega))⟩
theorem ShowS.push {Ws W W1 W2 : World} {B b0 o : Nat} {ms : List (ByteArray × JV)} {p p2 : Option Addr} {n c n2 c2 : Nat} {rms : List RM} {x : RM} {y : ByteArray × JV} (h : ShowS Ws B b0 o ms p n c W) (hB : B <= b0) (hO : Own W (b0 + 1) 81 encM 6 (.slice p n c) rms) (hM : MemsOf W B ms rms)
 (hb : Below W.heap.size W W1) (ho : b0 < o) (ho2 : Own W2 (b0 + 1) 81 encM 6 (.slice p2 n2 c2) (rms ++ [x])) (hg : W1.grownBy W2 (Value.slice p n c).ownBlock) (hat : (Value.slice p2 n2 c2).ownBlock = (Value.slice p n c).ownBlock \/ (Value.slice p2 n2 c2).ownBlock = some W1.heap.size)
 (hn : y.1 = x.name) (ht : TreeOf W B y.2 x.v) : ShowS Ws B b0 o (ms ++ [y]) p2 n2 c2 (W2.setCell ⟨o, 4, none⟩ (.slice p2 n2 c2)) := by
 have h1 := h.step hB hb
 have hO1 := hO.below hb (Nat.le_refl _)
 have hz := h1.zero.lt
 have hoz := h1.out.lt
 have hne2 : (Value.slice p2 n2 c2).ownBlock ≠ some o := fun e => by
  rcases hat with h | h
  ·rw [h] at e; exact h1.no e
  ·rw [h] at e; injection e with e; omega
 have hV : VAt W2 o ⟨6, 0, ⟨#[]⟩, none, 0, 0, p, n, c⟩ := (hg.block o hoz (fun e => h1.no e.symm)).trans h1.out
 have hZ : VAt W2 b0 RV.zero := (hg.block b0 hz (fun e => by have := (hO1.lt _ e.symm).1; omega)).trans h1.zero
 have hg2 := grownBy_set W2 o 4 (.slice p2 n2 c2)
 have hb2 : Below b0 W (W2.setCell ⟨o, 4, none⟩ (.slice p2 n2 c2)) := (((hb.mono (by have := h.zero.lt; omega)).grown hg (by omega) (fun k e => by have := (hO1.lt _ e).1; omega)).setCell (p := ⟨o, 4, none⟩) (show b0 <= o by omega) _)
 refine ⟨hV.set4 p2 n2 c2, (hg2.block b0 hZ.lt (by simp; omega)).trans hZ, ⟨rms ++ [x], ho2.kept hg2 (.inr hne2), ?_⟩, hne2, h.below.trans hb2⟩
 exact (hM.snoc hn ht).under (hb2.mono hB) (Nat.le_refl _)
theorem ShowS.fin {Ws W w : World} {B b0 o : Nat} {ms : List (ByteArray × JV)} {p : Option Addr} {n c : Nat} (h : ShowS Ws B b0 o ms p n c W) (hB : B <= b0) (hw : w.heap.size <= b0) (hb : Below w.heap.size w Ws) : MapRet w B ms (.returned (RV.val ⟨6, 0, ⟨#[]⟩, none, 0, 0, p, n, c⟩)) (((((W.setCell ⟨b0, 0, none⟩ (.int .i64 6)).setCell ⟨b0, 1, none⟩ (.int .i64 0)).setCell ⟨b0, 2, none⟩ (.string ⟨#[]⟩)).setCell ⟨b0, 3, none⟩ (.slice none 0 0)).setCell ⟨b0, 4, none⟩ (.slice p n c)) := by
 obtain ⟨rms, h1, h2⟩ := h.own
 refine ⟨p, n, c, rms, rfl, ?_, h2.under (Below.stored (Below.refl _ _) (by omega) ⟨6, 0, ⟨#[]⟩, none, 0, 0, p, n, c⟩) (Nat.le_refl _), Below.stored (hb.trans (h.below.mono hw)) hw ⟨6, 0, ⟨#[]⟩, none, 0, 0, p, n, c⟩⟩
 exact (h1.kept (grownBy_set5 W b0 ⟨6, 0, ⟨#[]⟩, none, 0, 0, p, n, c⟩) (.inr (fun e => by have := (h1.lt _ e).1; omega))).mono (by omega)
end
section
open Go Go.RowKit Go.ChangeShapes Go.WideShapes Go.Deep
section
variable {H : Type} {enc : TypeId × Value -> H} {W : World} {base b0 : Nat} {spare : Nat -> Bool} {held : Bool}
theorem cel1 : Tryz.prog.cellsOf 2 = 1 := by kernel_rfl
theorem cel2 : Tryz.prog.cellsOf 3 = 1 := by kernel_rfl
theorem cel3 : Tryz.prog.cellsOf 9 = 1 := by kernel_rfl
theorem cel4 : Tryz.prog.cellsOf 28 = 1 := by kernel_rfl
theorem cel5 : Tryz.prog.cellsOf 29 = 1 := by kernel_rfl
theorem weights_string {t : TypeId} {s : ByteArray} {R : Nat} (h : ∀ n ∈ (DataW.lit (H := H) (.string s.data.toList)).weights Tryz.prog t, n <= R) : s.size <= R := by
 have := h s.data.toList.length (by simp [DataW.weights])
 simpa using this
theorem open_val : ∀ (fuel : Nat) (cs : List Value) (x : DataW H × List MemPlace), DataW.trod enc Tryz.prog W base spare held fuel 31 cs = some x ->
 ∃ r t, cs = encV r /\ TreeOf W W.heap.size t r /\ ((∀ n ∈ x.1.weights Tryz.prog 31, n <= 140737488351232) -> t.Ok) := by
 intro fuel
 induction fuel using Nat.strongRecOn with
 | ind fuel ih =>
   intro cs x h
   obtain ⟨y0, y1, y2, y3, y4, n, rfl, hx1, hlen, t0, t1, t2, t3, t4⟩ := trodF5 Tryz.underlying31 h
   rw [cellsV] at hlen
   obtain ⟨c0, c1, c2, c3, c4, rfl⟩ : ∃ c0 c1 c2 c3 c4, cs = [c0, c1, c2, c3, c4] := by
    match cs, hlen with
    | [a, b, c, d, e], _ => exact ⟨a, b, c, d, e, rfl⟩
   rw [hx1]
   dsimp only at t0 t1 t2 t3 t4
   rw [cel2] at t0
   rw [cel1] at t1
   rw [cel3] at t2
   rw [cel4] at t3
   rw [cel5] at t4
   simp only [List.drop_zero, List.drop_succ_cons, List.take_succ_cons, List.take_zero] at t0 t1 t2 t3 t4
   obtain ⟨k, e0, f0, w0⟩ := DataW.trod_int Tryz.underlying3 t0
   obtain ⟨n', e1, f1, w1⟩ := DataW.trod_int Tryz.underlying2 t1
   obtain ⟨s, e2, f2, w2⟩ := DataW.trod_string Tryz.underlying9 t2
   simp only [List.cons.injEq, and_true] at e0 e1 e2
   subst e0 e1 e2 f0 f1 f2
   obtain ⟨pl, nl, cl, rs, e3, hr3, hd3⟩ := open_list (Q := fun (r : RV) (d : DataW H) => ∃ t, TreeOf W W.heap.size t r /\ ((∀ n ∈ d.weights Tryz.prog 31, n <= 140737488351232) -> t.Ok)) Tryz.underlying28 cellsV codecV t3
    (fun m hm cs y hy => by
     obtain ⟨r, t, h1, h2⟩ := ih m (by omega) cs y hy
     exact ⟨r, h1, t, h2⟩)
   obtain ⟨pm, nm, cm, rms, e4, hr4, hd4⟩ := open_list (Q := fun (r : RM) (d : DataW H) => ∃ t, TreeOf W W.heap.size t r.v /\ ((∀ n ∈ d.weights Tryz.prog 81, n <= 140737488351232) -> r.name.size <= 140737488351232 /\ t.Ok)) Tryz.underlying29 cellsM codecM t4
    (fun m hm cs y hy => by
     obtain ⟨z0, z1, j, rfl, hy1, hlen, u0, u1⟩ := trodF2 Tryz.underlying81 hy
     rw [cellsM] at hlen
     obtain ⟨a0, a1, a2, a3, a4, a5, rfl⟩ : ∃ a0 a1 a2 a3 a4 a5, cs = [a0, a1, a2, a3, a4, a5] := by
      match cs, hlen with
      | [a, b, c, d, e, f], _ => exact ⟨a, b, c, d, e, f, rfl⟩
     rw [hy1]
     dsimp only at u0 u1
     rw [cel3] at u0
     rw [cellsV] at u1
     simp only [List.drop_zero, List.drop_succ_cons, List.take_succ_cons, List.take_zero] at u0 u1
     obtain ⟨nm, g0, g1, g2⟩ := DataW.trod_string Tryz.underlying9 u0
     simp only [List.cons.injEq, and_true] at g0
     subst g0 g1
     obtain ⟨r, t, h1, h2, h3⟩ := ih j (by omega) _ _ u1
     refine ⟨⟨nm, r⟩, by rw [h1]; rfl, t, h2, fun hw => ⟨weights_string (weights_struct Tryz.underlying81 hw (i := 0) rfl rfl), h3 (weights_struct Tryz.underlying81 hw (i := 1) rfl rfl)⟩⟩)
   simp only [List.cons.injEq, and_true] at e3 e4
   subst e3 e4
   have nl_eq : nl = rs.length := by
    obtain ⟨_, _, e, _⟩ := hr3
    simp only [Value.slice.injEq] at e; exact e.2.1
   have nm_eq : nm = rms.length := by
    obtain ⟨_, _, e, _⟩ := hr4
    simp only [Value.slice.injEq] at e; exact e.2.1
   have hL : ∀ i, i < rs.length -> ∃ t : JV, ∀ q, rs[i]? = some q -> TreeOf W W.heap.size t q /\ ((∀ n ∈ y3.1.weights Tryz.prog 28, n <= 140737488351232) -> t.Ok) := by
    intro i hi
    obtain ⟨q, hq⟩ : ∃ q, rs[i]? = some q := ⟨_, List.getElem?_eq_getElem hi⟩
    rcases hd3 with ⟨rfl, _⟩ | ⟨es, sp, h1, h2, h3⟩
    ·simp at hi
    ·obtain ⟨d, hd, t, ht1, ht2⟩ := h3 i q hq
     refine ⟨t, fun q' hq' => ?_⟩
     rw [hq] at hq'
     cases hq'
     refine ⟨ht1, fun hw => ht2 ?_⟩
     rw [h1] at hw
     exact (weights_slice Tryz.underlying28 hw).2 d (List.mem_of_getElem? hd)
   have hM : ∀ i, i < rms.length -> ∃ p : ByteArray × JV, ∀ q, rms[i]? = some q -> p.1 = q.name /\ TreeOf W W.heap.size p.2 q.v /\ ((∀ n ∈ y4.1.weights Tryz.prog 29, n <= 140737488351232) -> p.1.size <= 140737488351232 /\ p.2.Ok) := by
    intro i hi
    obtain ⟨q, hq⟩ : ∃ q, rms[i]? = some q := ⟨_, List.getElem?_eq_getElem hi⟩
    rcases hd4 with ⟨rfl, _⟩ | ⟨es, sp, h1, h2, h3⟩
    ·simp at hi
    ·obtain ⟨d, hd, t, ht1, ht2⟩ := h3 i q hq
     refine ⟨(q.name, t), fun q' hq' => ?_⟩
     rw [hq] at hq'
     cases hq'
     refine ⟨rfl, ht1, fun hw => ht2 ?_⟩
     rw [h1] at hw
     exact (weights_slice Tryz.underlying29 hw).2 d (List.mem_of_getElem? hd)
   obtain ⟨ts, hts, hts2⟩ := list_of rs.length hL
   obtain ⟨ps, hps, hps2⟩ := list_of rms.length hM
   refine ⟨⟨k, n', s, pl, nl, cl, pm, nm, cm⟩, .mk k n' s ts ps, rfl, ?_, fun hw => ?_⟩
   ·exact TreeOf.mk (r := ⟨k, n', s, pl, nl, cl, pm, nm, cm⟩) hr3 hts (fun i t q h1 h2 => (hts2 i t h1 q h2).1) hr4 hps (fun i p q h1 h2 => (hps2 i p h1 q h2).1) (fun i p q h1 h2 => (hps2 i p h1 q h2).2.1)
   ·have v2 := weights_string (weights_struct Tryz.underlying31 hw (i := 2) rfl rfl)
    have v3 : ∀ n ∈ y3.1.weights Tryz.prog 28, n <= 140737488351232 := weights_struct Tryz.underlying31 hw (i := 3) rfl rfl
    have v4 : ∀ n ∈ y4.1.weights Tryz.prog 29, n <= 140737488351232 := weights_struct Tryz.underlying31 hw (i := 4) rfl rfl
    refine .mk w0 w1 v2 ?_ ?_ (fun i x hx => ?_) (fun i p hp => ?_) (fun i p hp => ?_)
    ·rcases hd3 with ⟨rfl, _⟩ | ⟨es, sp, h1, h2, _⟩
     ·rw [hts]; simp
     ·rw [h1] at v3
      have := (weights_slice Tryz.underlying28 v3).1
      rw [bytesV] at this
      omega
    ·rcases hd4 with ⟨rfl, _⟩ | ⟨es, sp, h1, h2, _⟩
     ·rw [hps]; simp
     ·rw [h1] at v4
      have := (weights_slice Tryz.underlying29 v4).1
      rw [bytesM] at this
      omega
    ·obtain ⟨q, hq⟩ : ∃ q, rs[i]? = some q := ⟨_, List.getElem?_eq_getElem (by have := (List.getElem?_eq_some_iff.1 hx).1; omega)⟩
     exact (hts2 i x hx q hq).2 v3
    ·obtain ⟨q, hq⟩ : ∃ q, rms[i]? = some q := ⟨_, List.getElem?_eq_getElem (by have := (List.getElem?_eq_some_iff.1 hp).1; omega)⟩
     exact ((hps2 i p hp q hq).2.2 v4).1
    ·obtain ⟨q, hq⟩ : ∃ q, rms[i]? = some q := ⟨_, List.getElem?_eq_getElem (by have := (List.getElem?_eq_some_iff.1 hp).1; omega)⟩
     exact ((hps2 i p hp q hq).2.2 v4).2
theorem open_value {v : Value} {d : DataW H} {p : List MemPlace} (hval : Value.okWide Tryz.prog W .any b0 31 v) (h : DataW.Trod enc Tryz.prog W base spare held 31 v d p) :
 ∃ r t, v = RV.val r /\ TreeOf W W.heap.size t r /\ ((∀ n ∈ d.weights Tryz.prog 31, n <= 140737488351232) -> t.Ok) := by
 obtain ⟨cs, rfl, hsz⟩ := okWide_struct Tryz.underlying31 hval
 obtain ⟨fuel, hf⟩ := h
 obtain ⟨r, t, h1, h2, h3⟩ := open_val fuel _ _ hf
 refine ⟨r, t, ?_, h2, h3⟩
 have : cs = (encV r).toArray := by
  apply Array.ext'
  simpa [Value.cells] using h1
 rw [this]
 rfl
end
#print axioms open_value
end
section
open Go.RowKit
theorem ret_bool {a b : Bool} (h : a = b) : Ending.returned (.bool a) = .returned (.bool b) := by rw [h]
def mayB (was what : Int) : Bool := if what = 1 then was == 0 else if what = 2 \/ what = 3 then was != 3 else false
structure En where
 seq : Int
 id : ByteArray
 what : Int
deriving DecidableEq
def En.ok (e : En) : Prop := (Lit.int .i64 e.seq).wf = true /\ e.id.size <= maxLen /\ (Lit.int .i64 e.what).wf = true
theorem toList_beq (a b : ByteArray) : (a.toList == b.toList) = decide (a = b) := by
 rw [ByteArray.toList_eq, ByteArray.toList_eq]
 obtain ⟨⟨x⟩⟩ := a
 obtain ⟨⟨y⟩⟩ := b
 by_cases h : x = y
 ·simp [h]
 ·simp [h]
def enAt (w : World) (b o : Nat) (e : Option En) : Prop := ∃ x, e = some x /\ w.cell? ⟨b, o, none⟩ = some (.int .i64 x.seq) /\ w.cell? ⟨b, o + 1, none⟩ = some (.string x.id) /\ w.cell? ⟨b, o + 2, none⟩ = some (.int .i64 x.what)
def RdE (w : World) (B : Nat) (v : Value) (es : List En) : Prop :=
 (∀ e ∈ es, e.ok) /\ ∃ (p : Option Addr) (cap : Nat), v = .slice p es.length cap /\ es.length <= cap /\ cap <= maxLen /\ (p = none -> cap = 0) /\
  ∀ a, p = some a -> 0 < es.length -> ∃ b o, a = ⟨b, o, none⟩ /\ b < B /\ ∀ i, i < es.length -> enAt w b (o + i * 3) es[i]?
theorem slice_at {p : Option Addr} {cap n k B : Nat} {C : Nat -> Nat -> Nat -> Prop} (h0 : p = none -> cap = 0)
 (h : ∀ a, p = some a -> 0 < n -> ∃ b o, a = ⟨b, o, none⟩ /\ b < B /\ ∀ i, i < n -> C b o i) (hk : k < n /\ n <= cap) : ∃ b o, p = some ⟨b, o, none⟩ /\ b < B /\ ∀ i, i < n -> C b o i := by
 cases p with
 | none => have := h0 rfl; omega
 | some a => obtain ⟨b, o, rfl, hb, hc⟩ := h a rfl (by omega); exact ⟨b, o, rfl, hb, hc⟩
end
end Go.Proofs.YtfgjimpmpckgpaaGreatDoor
