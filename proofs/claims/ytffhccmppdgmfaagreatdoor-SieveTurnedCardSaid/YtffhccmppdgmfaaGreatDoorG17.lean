import Derived.Test.YtffhccmppdgmfaaGreatDoorG15
import Derived.Deep.LoopGhost
import Derived.Defers
import Derived.Recover
import Derived.Test.YtffhccmppdgmfaaGreatDoorG12
import Derived.Test.YtffhccmppdgmfaaGreatDoorG13
set_option linter.unusedSimpArgs false
set_option linter.unusedVariables false
set_option maxRecDepth 200000
set_option maxHeartbeats 8000000
namespace Go.Proofs.YtffhccmppdgmfaaGreatDoor
section
open Go Go.RowKit Go.OpenShut
theorem toks_le {s : ByteArray} {i : Nat} {l : List Tok} (h : Toks s i l) : i <= s.size := by
 induction h with
 | done => exact Nat.le_refl _
 | space h => omega
 | mark h => omega
 | text h => omega
 | num h => omega
 | word _ h => omega
theorem toks_len {s : ByteArray} {i : Nat} {l : List Tok} (h : Toks s i l) : l.length + i <= s.size := by
 induction h with
 | done => simp
 | space h _ _ ih => omega
 | mark h _ _ ih => rw [List.length_cons]; omega
 | text h _ _ _ _ _ ih => rw [List.length_cons]; omega
 | num h _ _ _ _ ih => rw [List.length_cons]; omega
 | @word i w l hw hi ha ht ih =>
   have : 1 <= w.size := by rcases hw with rfl | rfl | rfl <;> decide
   rw [List.length_cons]; omega
def TksR (w : World) (l : List Tok) (e : Ending) (w' : World) : Prop := ∃ p n c, e = .returned (.tuple #[.slice p n c, .int .i64 0, .int .i64 0]) /\ Own w' w.heap.size 115 encTok 4 (.slice p n c) l /\ Below w.heap.size w w'
theorem tokens_any (w : World) (s : ByteArray) (l : List Tok) (hs : s.size <= 65536) (ht : Toks s 0 l) : Calls Tryz.prog 76 #[.string s] w (TksR w l) := by
 have d1 : ¬ (65536 < (s.size : Int)) := by omega
 have d2 : ¬ (65536 < s.size) := by omega
 have HT := Lib.hid ht
 have hA : ScAt (w.alloc (.cells #[.string s, .int .i64 0, .slice none 0 0] 146)) w.heap.size s 0 (.slice none 0 0) := heap_alloc_at rfl
 have hS0 : ScS (w.alloc (.cells #[.string s, .int .i64 0, .slice none 0 0] 146)) (w.alloc (.cells #[.string s, .int .i64 0, .slice none 0 0] 146)) w.heap.size s 0 [] := ⟨⟨_, hA, Own.nil _ _ _⟩, Below.refl _ _⟩
 have hB0 : Below w.heap.size w (w.alloc (.cells #[.string s, .int .i64 0, .slice none 0 0] 146)) := (Below.refl _ _).alloc (Nat.le_refl _) _
 clear ht hA
 go_enter Tryz.func76, Tryz.ntmps76
 go_wp2_with fail
 obtain ⟨g, hg⟩ : ∃ g, w.heap.size = g := ⟨_, rfl⟩
 obtain ⟨W0, hW0⟩ : ∃ W, w.alloc (.cells #[.string s, .int .i64 0, .slice none 0 0] 146) = W := ⟨_, rfl⟩
 rw [hW0] at hS0 hB0
 rw [hg] at hS0
 try rw [hW0]
 try rw [hg]
 have HS0 := Lib.hid hS0
 have HB0 := Lib.hid hB0
 have HG := Lib.hid hg
 clear hS0 hB0 hW0 hg
 go_loopg [6] s.size (fun gk o wr => ∃ i l1 l2, gk = s.size - i /\ Hid (Toks s i l2 /\ l = l1 ++ l2 /\ ScS W0 wr g s i l1 /\ l1.length <= i))
 case atStart => exact ⟨0, [], l, rfl, HT.out, rfl, HS0.out, Nat.le_refl _⟩
 case round =>
  obtain ⟨i, l1, l2, hgk, hH⟩ := hrel
  obtain ⟨htk, hll, hsc, hlen⟩ := hH.out
  clear hH
  obtain ⟨c0, c1, hgw⟩ := hsc.cells
  have hle := toks_le htk
  have HGK := Lib.hid hgk
  have HLL := Lib.hid hll
  have HSC := Lib.hid hsc
  have HLEN := Lib.hid hlen
  clear hgk hll hlen
  have i0 : (0 : Int) <= (i : Int) := Int.natCast_nonneg _
  by_cases hi : i < s.size
  ·have i1 : (i : Int) < (s.size : Int) := by omega
   have i2 : i < 4398046510976 := by omega
   have HIX : Hid (∀ W, Calls Tryz.prog 104 #[.string ⟨#[32, 9, 10, 13]⟩, .int .u8 (s[i].toNat : Int)] W fun e w' => e = .returned (.int .i64 (Lib.indexByte [32, 9, 10, 13] s[i])) /\ w' = W) := fun W => (strings_IndexByte _ _ W).mono (fun e w' h => ⟨by rw [h.1, indexByte_u8], h.2⟩)
   have hix := sp_index s[i]
   by_cases hsp : spCh s[i]! = true
   ·have ht2 : Toks s (i + 1) l2 := by
     cases htk with
     | done => omega
     | space _ _ h => exact h
     | mark _ h => exfalso; revert h hsp; unfold spCh mkCh; simp only [Bool.or_eq_true, decide_eq_true_eq]; omega
     | text _ _ h => exfalso; revert hsp; unfold spCh; simp only [Bool.or_eq_true, decide_eq_true_eq]; omega
     | num _ h1 h2 => exfalso; revert hsp; unfold spCh; simp only [Bool.or_eq_true, decide_eq_true_eq]; omega
     | word h1 h2 h3 => exfalso; have := word_first h1 h2 h3; revert hsp; rcases this with h | h | h <;> rw [h] <;> decide
    have HT2 := Lib.hid ht2
    rw [get_bang s i hi] at hsp
    rw [hsp] at hix
    have hix2 : 0 <= Lib.indexByte [32, 9, 10, 13] s[i] := of_decide_eq_true hix
    obtain ⟨x, hx⟩ : ∃ x, Lib.indexByte [32, 9, 10, 13] s[i] = x := ⟨_, rfl⟩
    rw [hx] at HIX hix hix2
    obtain ⟨v, hv1, hv2⟩ := hsc.ex
    have z1 := hv1.frozen 1
    have hset := hv1.set1 (i + 1)
    have hgr := grownBy_set wr g 1 (.int .i64 ((i + 1 : Nat) : Int))
    have hsc2 : ScS W0 (wr.setCell ⟨g, 1, none⟩ (.int .i64 ((i + 1 : Nat) : Int))) g s (i + 1) l1 := ⟨⟨v, hset, hv2.same (fun k e => hgr.block k (hv2.lt k e).2 (fun e2 => by cases e2; have := (hv2.lt g e).1; omega))⟩, hsc.below.grown hgr (by omega) (fun k e => by cases e; exact Nat.le_refl _)⟩
    have ec : ((i + 1 : Nat) : Int) = (i : Int) + 1 := by omega
    rw [ec] at hsc2
    have HS2 := Lib.hid hsc2
    clear hsp hx htk ht2 hset hgr hsc hsc2 hv1 hv2 ec
    go_wp2_with (go_at_call 104; refine (HIX.out _).mono ?_; rintro e w1 ⟨rfl, rfl⟩)
    go_roundg (s.size - (i + 1))
    case measure => have := HGK.out; omega
    case rel => exact ⟨i + 1, l1, l2, rfl, HT2.out, HLL.out, HS2.out, by have := HLEN.out; omega⟩
   ·have ht2 : ∃ (t : Tok) (nx : Nat) (l3 : List Tok), l2 = t :: l3 /\ i < nx /\ Toks s nx l3 /\ (∀ W, ScS W W g s i l1 -> Calls Tryz.prog 105 #[.pointer (some ⟨g, 0, none⟩)] W fun e w' => e = .returned (.int .i64 0) /\ ScS W w' g s nx (l1 ++ [t])) := by
     have hl1 : l1.length <= 65536 := by have := HLEN.out; omega
     cases htk with
     | done => omega
     | space _ h _ => exact absurd h hsp
     | mark h1 h2 h3 => exact ⟨_, i + 1, _, rfl, by omega, h3, fun W hW => one_mark W g i s l1 hW hl1 hs h1 h2⟩
     | @text _ j _ h1 h2 h3 h4 h5 h6 => exact ⟨_, j + 1, _, rfl, by omega, h6, fun W hW => one_text W g i j s l1 hW hl1 hs h1 h2 h3 h4 h5⟩
     | num h1 h2 h3 h4 h5 => exact ⟨_, i + 1, _, rfl, by omega, h5, fun W hW => one_num W g i s l1 hW hl1 hs h1 h2 h3 h4⟩
     | @word _ wd _ h1 h2 h3 h4 =>
       have : 1 <= wd.size := by rcases h1 with rfl | rfl | rfl <;> decide
       exact ⟨_, i + wd.size, _, rfl, by omega, h4, fun W hW => one_word W g i s wd l1 hW hl1 hs h2 h1 h3⟩
    obtain ⟨t, nx, l3, hl2, hnx, ht3, hone⟩ := ht2
    have HON := Lib.hid hone
    have HL2 : Hid (l = (l1 ++ [t]) ++ l3) := by unfold Hid; rw [HLL.out, hl2]; simp
    have HT3 := Lib.hid ht3
    have hsp2 : spCh s[i] = false := by rw [<- get_bang s i hi]; simpa using hsp
    rw [hsp2] at hix
    have hix2 : ¬ (0 <= Lib.indexByte [32, 9, 10, 13] s[i]) := of_decide_eq_false hix
    obtain ⟨x, hx⟩ : ∃ x, Lib.indexByte [32, 9, 10, 13] s[i] = x := ⟨_, rfl⟩
    rw [hx] at HIX hix hix2
    have hlt : x < 0 := by omega
    clear hsp hsp2 hx htk hl2 ht3 hone hsc
    go_wp2_with (first
     | (go_at_call 104; refine (HIX.out _).mono ?_; rintro e w1 ⟨rfl, rfl⟩)
     | (go_at_call 105; refine (HON.out _ HSC.out.self).mono ?_; rintro e w2 ⟨rfl, hS2⟩))
    go_roundg (s.size - nx)
    case measure => have := HGK.out; omega
    case rel => exact ⟨nx, l1 ++ [t], l3, rfl, HT3.out, HL2.out, ⟨hS2.ex, HSC.out.below.trans hS2.below⟩, by have := HLEN.out; simp; omega⟩
  ·obtain rfl : i = s.size := by omega
   have hl2 : l2 = [] := List.eq_nil_of_length_eq_zero (by have := toks_len htk; omega)
   have HL1 : Hid (l = l1) := by unfold Hid; rw [HLL.out, hl2, List.append_nil]
   obtain ⟨v, hv1, hv2⟩ := hsc.ex
   obtain ⟨p, n, c, rfl⟩ : ∃ p n c, v = Value.slice p n c := by obtain ⟨p, c, hv, _, _⟩ := hv2.len; exact ⟨p, _, c, hv⟩
   have c2 := hv1.cell 2 rfl
   have HV := Lib.hid hv2
   have HBW := Lib.hid hsc.below
   clear htk hl2 hv1 hv2 hsc
   go_wp2_with fail
   go_ret3
   rw [HL1.out]
   exact ⟨p, n, c, rfl, HV.out.mono (by have := HG.out; omega), by have h := HBW.out; rw [<- HG.out] at h; exact HB0.out.trans h⟩
theorem readCatch_idle (a b c : Value) (w : World) : CallsD Tryz.prog 77 #[a, b, c] .returning w fun e u' w' => e = .returned (.tuple #[]) /\ u' = .returning /\ w' = w := by
 refine callsD_of_wpS Tryz.func77 rfl fun c₀ cs hu => ?_
 apply wpS_seq
 apply wpS_region
 simp [wpOpsS, go_sem, recoverD, hu, Tryz.ntmps77, Exit.thenS]
 apply wpS_seq
 apply wpS_region
 simp [wpOpsS, go_sem, Exit.thenS]
 refine wpS_cond (t := false) (by simp [Act.eval, Array.replicate]) ?_
 simp only [Bool.false_eq_true, if_false]
 refine wpS_of_wp (wp_skip ?_)
 cases c₀
 simp_all [bodyPostS, results, Tryz.results77]
def NumBk (W : World) (ty : TypeId) (g : Nat) (n : Int) : Prop := W.heap[g]? = some (.cells #[.int .i64 n] ty (0, 0))
section
variable {W W' : World} {ty : TypeId} {g : Nat} {n : Int} (h : NumBk W ty g n)
include h
theorem NumBk.lt : g < W.heap.size := (Array.getElem?_eq_some_iff.1 h).1
theorem NumBk.cell : W.cell? ⟨g, 0, none⟩ = some (.int .i64 n) := by
 unfold NumBk at h
 rw [cell_of_row W g 0 _ _ _ h]
 rfl
theorem NumBk.frozen : W.frozen? ⟨g, 0, none⟩ = false := by
 unfold NumBk at h
 simp [World.frozen?, h]
theorem NumBk.keep (hk : W'.heap[g]? = W.heap[g]?) : NumBk W' ty g n := hk.trans h
theorem NumBk.set (m : Int) : NumBk (W.setCell ⟨g, 0, none⟩ (.int .i64 m)) ty g m := by
 unfold NumBk at h ⊢
 simp [World.setCell, Array.getElem?_modify, h]
end
def ReadRet (w : World) (v : JV) (e : Ending) (w' : World) : Prop := ∃ r : RV, e = .returned (.tuple #[RV.val r, .int .i64 0, .int .i64 0]) /\ TreeOf w' w'.heap.size v r /\ Below w.heap.size w w'
def ReadRetS (w : World) (v : JV) (e : Ending) (w' : World) : Prop := ∃ r : RV, e = .returned (.tuple #[RV.val r, .int .i64 0, .int .i64 0]) /\ TreeS w' (fun k => w.heap.size <= k /\ k < w'.heap.size) v r /\ Below w.heap.size w w'
theorem readF_parts {s : ByteArray} {v : JV} (h : readF s = some v) : ∃ t ts q, Toks s 0 (t :: ts) /\ parV ((t :: ts).length + 1) 1 0 (t :: ts) = some (v, q, []) := by
 unfold readF at h
 split at h
 ·cases h
 ·rename_i l hl
  split at h
  ·rename_i v' q hv
   cases h
   cases l with
   | nil => simp [parV] at hv
   | cons t ts => exact ⟨t, ts, q, toksF_ok s _ _ _ hl, hv⟩
  ·cases h
theorem readS_any (w : World) (s : ByteArray) (v : JV) (hs : s.size <= 65536) (hv : readF s = some v) : Calls Tryz.prog 38 #[.string s] w (ReadRetS w v) := by
 obtain ⟨t, ts, q, htk, hpv⟩ := readF_parts hv
 have HTK : Hid (∀ W, Calls Tryz.prog 76 #[.string s] W (TksR W (t :: ts))) := fun W => tokens_any W s (t :: ts) hs htk
 have HNX : Hid (∀ W g en, RdS W g (t :: ts) en 0 -> Calls Tryz.prog 79 #[.pointer (some ⟨g, 0, none⟩)] W (NxtRet W g t ts en 0)) := fun W g en hr => next_any W g en 0 t ts hr
 have HVA : Hid (∀ W g en, RdS W g ts en 0 -> Calls Tryz.prog 78 #[.pointer (some ⟨g, 0, none⟩), t.val, .int .i64 1] W (ValR W g v [] en q)) := fun W g en hr => value_all _ _ (Nat.le_refl _) 1 0 t ts v q [] hpv W g en hr
 clear hv htk hpv
 have hZ0 : VAt (((w.alloc (.cells #[.int .i64 0, .int .i64 0, .string ⟨#[]⟩, .slice none 0 0, .slice none 0 0] 25)).alloc (.cells #[.int .i64 0] 3)).alloc (.cells #[.int .i64 0] 40)) w.heap.size RV.zero := heap_alloc_lt (by simp; omega) (heap_alloc_lt (by simp) (heap_alloc_at rfl))
 have hN1 : NumBk (((w.alloc (.cells #[.int .i64 0, .int .i64 0, .string ⟨#[]⟩, .slice none 0 0, .slice none 0 0] 25)).alloc (.cells #[.int .i64 0] 3)).alloc (.cells #[.int .i64 0] 40)) 3 (w.heap.size + 1) 0 := heap_alloc_lt (by simp) (heap_alloc_at (by simp))
 have hN2 : NumBk (((w.alloc (.cells #[.int .i64 0, .int .i64 0, .string ⟨#[]⟩, .slice none 0 0, .slice none 0 0] 25)).alloc (.cells #[.int .i64 0] 3)).alloc (.cells #[.int .i64 0] 40)) 40 (w.heap.size + 1 + 1) 0 := heap_alloc_at (by simp)
 have hB0 : Below w.heap.size w (((w.alloc (.cells #[.int .i64 0, .int .i64 0, .string ⟨#[]⟩, .slice none 0 0, .slice none 0 0] 25)).alloc (.cells #[.int .i64 0] 3)).alloc (.cells #[.int .i64 0] 40)) := (((Below.refl _ _).alloc (Nat.le_refl _) _).alloc (by simp) _).alloc (by simp; omega) _
 have hs0 : (((w.alloc (.cells #[.int .i64 0, .int .i64 0, .string ⟨#[]⟩, .slice none 0 0, .slice none 0 0] 25)).alloc (.cells #[.int .i64 0] 3)).alloc (.cells #[.int .i64 0] 40)).heap.size = w.heap.size + 3 := by simp
 have hmf : ∀ (fn : Fn) (first cap : Array Value) (w : World), (Instr.makeFunc fn first cap).run Tryz.prog w = .ok (.func fn first cap) w := fun _ _ _ _ => rfl
 go_enter_defers Tryz.func38, Tryz.ntmps38
 go_upto_region 1 with fail
 obtain ⟨W0, hW0⟩ : ∃ W, ((w.alloc (.cells #[.int .i64 0, .int .i64 0, .string ⟨#[]⟩, .slice none 0 0, .slice none 0 0] 25)).alloc (.cells #[.int .i64 0] 3)).alloc (.cells #[.int .i64 0] 40) = W := ⟨_, rfl⟩
 rw [hW0] at hZ0 hN1 hN2 hB0 hs0
 try rw [hW0]
 clear hW0
 have HZ0 := Lib.hid hZ0
 have HN1 := Lib.hid hN1
 have HN2 := Lib.hid hN2
 have HB0 := Lib.hid hB0
 have HS0 := Lib.hid hs0
 clear hZ0 hN1 hN2 hB0 hs0
 go_upto_region 2 with (go_at_call 76; refine (HTK.out _).mono ?_; rintro e w1 ⟨p1, n1, c1, rfl, hr1, hb1⟩; (have hN11 := HN1.out.keep (hb1.block _ HN1.out.lt)); (have hN21 := HN2.out.keep (hb1.block _ HN2.out.lt)); (have x1 := hN11.cell); (have x2 := hN21.cell); (have y1 := hN11.frozen); (have y2 := hN21.frozen))
 have hg1 := grownBy_set w1 (w.heap.size + 1) 0 (.int .i64 0)
 have hg2 := grownBy_set (w1.setCell ⟨w.heap.size + 1, 0, none⟩ (.int .i64 0)) (w.heap.size + 1 + 1) 0 (.int .i64 0)
 have hN12 := (hN11.set 0).keep (hg2.block _ (hN11.set 0).lt (by simp))
 have hN22 := (hN21.keep (hg1.block _ hN21.lt (by simp))).set 0
 have hZ1 := HZ0.out.keep (hb1.block _ HZ0.out.lt)
 have hZ2 := (hZ1.keep (hg1.block _ hZ1.lt (by simp)))
 have hZ3 := hZ2.keep (hg2.block _ hZ2.lt (by simp; omega))
 have hb2 : Below w.heap.size w ((w1.setCell ⟨w.heap.size + 1, 0, none⟩ (.int .i64 0)).setCell ⟨w.heap.size + 1 + 1, 0, none⟩ (.int .i64 0)) :=
  ((HB0.out.trans (hb1.mono HB0.out.size)).grown hg1 (by have := HS0.out; have := hb1.size; omega) (fun k e => by cases e; omega)).grown hg2 (by have := HS0.out; have := hb1.size; simp; omega) (fun k e => by cases e; omega)
 obtain ⟨w2, hw2⟩ : ∃ W, (w1.setCell ⟨w.heap.size + 1, 0, none⟩ (.int .i64 0)).setCell ⟨w.heap.size + 1 + 1, 0, none⟩ (.int .i64 0) = W := ⟨_, rfl⟩
 have hO2 := hr1.same (w' := (w1.setCell ⟨w.heap.size + 1, 0, none⟩ (.int .i64 0)).setCell ⟨w.heap.size + 1 + 1, 0, none⟩ (.int .i64 0)) (fun k e => by
  have h3 := hr1.lt k e
  have h4 := HS0.out
  exact (hg2.block k (by simp; omega) (fun e2 => by cases e2; omega)).trans (hg1.block k h3.2 (fun e2 => by cases e2; omega)))
 rw [hw2] at hN12 hN22 hZ3 hb2 hO2
 try rw [hw2]
 have HO2 := Lib.hid hO2
 have HN3 := Lib.hid hN12
 have HN4 := Lib.hid hN22
 have HZ3 := Lib.hid hZ3
 have HB2 := Lib.hid hb2
 have a2 := hN22.cell
 clear hw2 hg1 hg2 hN11 hN21 hZ1 hZ2 x1 x2 y1 y2 hr1 hb1 hN12 hN22 hZ3 hb2 hO2
 go_upto_region 6 with fail
 have hR5 : RdS (w2.alloc (.cells #[.slice p1 n1 c1, .int .i64 s.size, .int .i64 0] 112)) w2.heap.size (t :: ts) s.size 0 := ⟨p1, n1, c1, heap_alloc_at rfl, (HO2.out.rd codecTok).below ((Below.refl _ _).alloc (Nat.le_refl _) _) (Nat.le_refl _)⟩
 have hZ5 := HZ3.out.keep (W' := w2.alloc (.cells #[.slice p1 n1 c1, .int .i64 s.size, .int .i64 0] 112)) (Below.heap_alloc _ _ _ HZ3.out.lt)
 have hN5 := HN3.out.keep (W' := w2.alloc (.cells #[.slice p1 n1 c1, .int .i64 s.size, .int .i64 0] 112)) (Below.heap_alloc _ _ _ HN3.out.lt)
 have hN6 := HN4.out.keep (W' := w2.alloc (.cells #[.slice p1 n1 c1, .int .i64 s.size, .int .i64 0] 112)) (Below.heap_alloc _ _ _ HN4.out.lt)
 have hB5 := HB2.out.alloc HB2.out.size (.cells #[.slice p1 n1 c1, .int .i64 s.size, .int .i64 0] 112)
 have hlt5 : w.heap.size + 2 < w2.heap.size := HN4.out.lt
 obtain ⟨g, hg⟩ : ∃ g, w2.heap.size = g := ⟨_, rfl⟩
 obtain ⟨w3, hw3⟩ : ∃ W, w2.alloc (.cells #[.slice p1 n1 c1, .int .i64 s.size, .int .i64 0] 112) = W := ⟨_, rfl⟩
 rw [hw3, hg] at hR5
 rw [hw3] at hZ5 hN5 hN6 hB5
 rw [hg] at hlt5
 try rw [hw3]
 try rw [hg]
 have HR5 := Lib.hid hR5
 have HZ5 := Lib.hid hZ5
 have HN5 := Lib.hid hN5
 have HN6 := Lib.hid hN6
 have HB5 := Lib.hid hB5
 clear hw3 hg hR5 hZ5 hN5 hN6 hB5 HO2 HN3 HN4 HZ3 HB2 a2
 obtain ⟨tk, tn, tS, tp⟩ := t
 dsimp only [Tok.val, NxtRet] at *
 go_upto_region 7 with (first
  | (go_at_call 79; refine (HNX.out _ _ _ HR5.out).mono ?_; rintro e w4 ⟨rfl, hr4, hg4⟩)
  | (go_at_call 78; refine (HVA.out _ _ _ hr4).mono ?_; rintro e w5 ⟨rv, rfl, ht5, hr5, hg5⟩; obtain ⟨vk, vn, vs, vpl, vnl, vcl, vpm, vnm, vcm⟩ := rv; (have hg45 := hg4.trans hg5); (have hZ6 := HZ5.out.keep (hg45.block _ HZ5.out.lt (by simp; omega))); (obtain ⟨z0, z1, z2, z3, z4⟩ := hZ6.cells5); (have y0 := hZ6.frozen 0); (have y1 := hZ6.frozen 1); (have y2 := hZ6.frozen 2); (have y3 := hZ6.frozen 3); (have y4 := hZ6.frozen 4)))
 have hv6 := hZ6.stored ⟨vk, vn, vs, vpl, vnl, vcl, vpm, vnm, vcm⟩
 have hg6 := grownBy_set5 w5 w.heap.size ⟨vk, vn, vs, vpl, vnl, vcl, vpm, vnm, vcm⟩
 have hlt4 := HN6.out.lt
 have hN7 := ((HN5.out.keep (hg45.block _ HN5.out.lt (by simp; omega)))).keep (hg6.block (w.heap.size + 1) (Nat.lt_of_lt_of_le HN5.out.lt hg45.size) (by simp))
 have hN8 := ((HN6.out.keep (hg45.block _ HN6.out.lt (by simp; omega)))).keep (hg6.block (w.heap.size + 1 + 1) (Nat.lt_of_lt_of_le HN6.out.lt hg45.size) (by simp; omega))
 have hr6 : ∃ p c, (((((w5.setCell ⟨w.heap.size, 0, none⟩ (.int .i64 (⟨vk, vn, vs, vpl, vnl, vcl, vpm, vnm, vcm⟩ : RV).k)).setCell ⟨w.heap.size, 1, none⟩ (.int .i64 (⟨vk, vn, vs, vpl, vnl, vcl, vpm, vnm, vcm⟩ : RV).n)).setCell ⟨w.heap.size, 2, none⟩ (.string (⟨vk, vn, vs, vpl, vnl, vcl, vpm, vnm, vcm⟩ : RV).s)).setCell ⟨w.heap.size, 3, none⟩ (.slice (⟨vk, vn, vs, vpl, vnl, vcl, vpm, vnm, vcm⟩ : RV).pl (⟨vk, vn, vs, vpl, vnl, vcl, vpm, vnm, vcm⟩ : RV).nl (⟨vk, vn, vs, vpl, vnl, vcl, vpm, vnm, vcm⟩ : RV).cl)).setCell ⟨w.heap.size, 4, none⟩ (.slice (⟨vk, vn, vs, vpl, vnl, vcl, vpm, vnm, vcm⟩ : RV).pm (⟨vk, vn, vs, vpl, vnl, vcl, vpm, vnm, vcm⟩ : RV).nm (⟨vk, vn, vs, vpl, vnl, vcl, vpm, vnm, vcm⟩ : RV).cm)).cell? ⟨g, 0, none⟩ = some (.slice p 0 c) := by
  obtain ⟨p, n, c, h1, h2⟩ := hr5.ex
  have hn := rd_nlen h2
  have h3 := h1.keep (hg6.block g h1.lt (by simp; omega))
  have h4 := h3.cell 0 rfl
  rw [hn] at h4
  exact ⟨p, c, h4⟩
 have ht6 := ht5.same (fun k hk => hg6.block k hk.2 (fun e => by cases e; have := hk.1; have := hg4.size; omega))
 have hb6 : Below w.heap.size w (((((w5.setCell ⟨w.heap.size, 0, none⟩ (.int .i64 (⟨vk, vn, vs, vpl, vnl, vcl, vpm, vnm, vcm⟩ : RV).k)).setCell ⟨w.heap.size, 1, none⟩ (.int .i64 (⟨vk, vn, vs, vpl, vnl, vcl, vpm, vnm, vcm⟩ : RV).n)).setCell ⟨w.heap.size, 2, none⟩ (.string (⟨vk, vn, vs, vpl, vnl, vcl, vpm, vnm, vcm⟩ : RV).s)).setCell ⟨w.heap.size, 3, none⟩ (.slice (⟨vk, vn, vs, vpl, vnl, vcl, vpm, vnm, vcm⟩ : RV).pl (⟨vk, vn, vs, vpl, vnl, vcl, vpm, vnm, vcm⟩ : RV).nl (⟨vk, vn, vs, vpl, vnl, vcl, vpm, vnm, vcm⟩ : RV).cl)).setCell ⟨w.heap.size, 4, none⟩ (.slice (⟨vk, vn, vs, vpl, vnl, vcl, vpm, vnm, vcm⟩ : RV).pm (⟨vk, vn, vs, vpl, vnl, vcl, vpm, vnm, vcm⟩ : RV).nm (⟨vk, vn, vs, vpl, vnl, vcl, vpm, vnm, vcm⟩ : RV).cm)) := (HB5.out.grown hg45 (by omega) (fun k e => by cases e; omega)).grown hg6 (by have := hg45.size; omega) (fun k e => by cases e; omega)
 have hz6 : (((((w5.setCell ⟨w.heap.size, 0, none⟩ (.int .i64 (⟨vk, vn, vs, vpl, vnl, vcl, vpm, vnm, vcm⟩ : RV).k)).setCell ⟨w.heap.size, 1, none⟩ (.int .i64 (⟨vk, vn, vs, vpl, vnl, vcl, vpm, vnm, vcm⟩ : RV).n)).setCell ⟨w.heap.size, 2, none⟩ (.string (⟨vk, vn, vs, vpl, vnl, vcl, vpm, vnm, vcm⟩ : RV).s)).setCell ⟨w.heap.size, 3, none⟩ (.slice (⟨vk, vn, vs, vpl, vnl, vcl, vpm, vnm, vcm⟩ : RV).pl (⟨vk, vn, vs, vpl, vnl, vcl, vpm, vnm, vcm⟩ : RV).nl (⟨vk, vn, vs, vpl, vnl, vcl, vpm, vnm, vcm⟩ : RV).cl)).setCell ⟨w.heap.size, 4, none⟩ (.slice (⟨vk, vn, vs, vpl, vnl, vcl, vpm, vnm, vcm⟩ : RV).pm (⟨vk, vn, vs, vpl, vnl, vcl, vpm, vnm, vcm⟩ : RV).nm (⟨vk, vn, vs, vpl, vnl, vcl, vpm, vnm, vcm⟩ : RV).cm)).heap.size = w5.heap.size := by simp
 dsimp only at hv6 hr6 hb6 hN7 hN8 ht6 hz6
 obtain ⟨w6, hw6⟩ : ∃ W, (((((w5.setCell ⟨w.heap.size, 0, none⟩ (.int .i64 (⟨vk, vn, vs, vpl, vnl, vcl, vpm, vnm, vcm⟩ : RV).k)).setCell ⟨w.heap.size, 1, none⟩ (.int .i64 (⟨vk, vn, vs, vpl, vnl, vcl, vpm, vnm, vcm⟩ : RV).n)).setCell ⟨w.heap.size, 2, none⟩ (.string (⟨vk, vn, vs, vpl, vnl, vcl, vpm, vnm, vcm⟩ : RV).s)).setCell ⟨w.heap.size, 3, none⟩ (.slice (⟨vk, vn, vs, vpl, vnl, vcl, vpm, vnm, vcm⟩ : RV).pl (⟨vk, vn, vs, vpl, vnl, vcl, vpm, vnm, vcm⟩ : RV).nl (⟨vk, vn, vs, vpl, vnl, vcl, vpm, vnm, vcm⟩ : RV).cl)).setCell ⟨w.heap.size, 4, none⟩ (.slice (⟨vk, vn, vs, vpl, vnl, vcl, vpm, vnm, vcm⟩ : RV).pm (⟨vk, vn, vs, vpl, vnl, vcl, vpm, vnm, vcm⟩ : RV).nm (⟨vk, vn, vs, vpl, vnl, vcl, vpm, vnm, vcm⟩ : RV).cm)) = W := ⟨_, rfl⟩
 dsimp only at hw6
 rw [hw6] at hv6 hr6 hb6 hN7 hN8 ht6 hz6
 try rw [hw6]
 clear z0 z1 z2 z3 z4 y0 y1 y2 y3 y4 hw6
 obtain ⟨p6, c6, c0⟩ := hr6
 obtain ⟨v0, v1, v2, v3, v4⟩ := hv6.cells5
 have y0 := hv6.frozen 0
 have y1 := hv6.frozen 1
 have y2 := hv6.frozen 2
 have y3 := hv6.frozen 3
 have y4 := hv6.frozen 4
 have x1 := hN7.cell
 have x2 := hN8.cell
 have y11 := hN7.frozen
 have y12 := hN8.frozen
 dsimp only at v0 v1 v2 v3 v4
 have hg7 := grownBy_set5 w6 w.heap.size (⟨vk, vn, vs, vpl, vnl, vcl, vpm, vnm, vcm⟩ : RV)
 have hg8 := grownBy_set (((((w6.setCell ⟨w.heap.size, 0, none⟩ (.int .i64 (⟨vk, vn, vs, vpl, vnl, vcl, vpm, vnm, vcm⟩ : RV).k)).setCell ⟨w.heap.size, 1, none⟩ (.int .i64 (⟨vk, vn, vs, vpl, vnl, vcl, vpm, vnm, vcm⟩ : RV).n)).setCell ⟨w.heap.size, 2, none⟩ (.string (⟨vk, vn, vs, vpl, vnl, vcl, vpm, vnm, vcm⟩ : RV).s)).setCell ⟨w.heap.size, 3, none⟩ (.slice (⟨vk, vn, vs, vpl, vnl, vcl, vpm, vnm, vcm⟩ : RV).pl (⟨vk, vn, vs, vpl, vnl, vcl, vpm, vnm, vcm⟩ : RV).nl (⟨vk, vn, vs, vpl, vnl, vcl, vpm, vnm, vcm⟩ : RV).cl)).setCell ⟨w.heap.size, 4, none⟩ (.slice (⟨vk, vn, vs, vpl, vnl, vcl, vpm, vnm, vcm⟩ : RV).pm (⟨vk, vn, vs, vpl, vnl, vcl, vpm, vnm, vcm⟩ : RV).nm (⟨vk, vn, vs, vpl, vnl, vcl, vpm, vnm, vcm⟩ : RV).cm)) (w.heap.size + 1) 0 (.int .i64 0)
 have hg9 := grownBy_set ((((((w6.setCell ⟨w.heap.size, 0, none⟩ (.int .i64 (⟨vk, vn, vs, vpl, vnl, vcl, vpm, vnm, vcm⟩ : RV).k)).setCell ⟨w.heap.size, 1, none⟩ (.int .i64 (⟨vk, vn, vs, vpl, vnl, vcl, vpm, vnm, vcm⟩ : RV).n)).setCell ⟨w.heap.size, 2, none⟩ (.string (⟨vk, vn, vs, vpl, vnl, vcl, vpm, vnm, vcm⟩ : RV).s)).setCell ⟨w.heap.size, 3, none⟩ (.slice (⟨vk, vn, vs, vpl, vnl, vcl, vpm, vnm, vcm⟩ : RV).pl (⟨vk, vn, vs, vpl, vnl, vcl, vpm, vnm, vcm⟩ : RV).nl (⟨vk, vn, vs, vpl, vnl, vcl, vpm, vnm, vcm⟩ : RV).cl)).setCell ⟨w.heap.size, 4, none⟩ (.slice (⟨vk, vn, vs, vpl, vnl, vcl, vpm, vnm, vcm⟩ : RV).pm (⟨vk, vn, vs, vpl, vnl, vcl, vpm, vnm, vcm⟩ : RV).nm (⟨vk, vn, vs, vpl, vnl, vcl, vpm, vnm, vcm⟩ : RV).cm)).setCell ⟨w.heap.size + 1, 0, none⟩ (.int .i64 0)) (w.heap.size + 1 + 1) 0 (.int .i64 0)
 have hv7 := ((hv6.stored (⟨vk, vn, vs, vpl, vnl, vcl, vpm, vnm, vcm⟩ : RV)).keep (hg8.block _ (hv6.stored (⟨vk, vn, vs, vpl, vnl, vcl, vpm, vnm, vcm⟩ : RV)).lt (by simp)))
 have hv9 := hv7.keep (hg9.block _ hv7.lt (by simp; omega))
 have hN9 := (((hN7.keep (hg7.block _ hN7.lt (by simp))).set 0))
 have hN9' := hN9.keep (hg9.block _ hN9.lt (by simp))
 have hN10 := ((hN8.keep (hg7.block _ hN8.lt (by simp; omega))).keep (hg8.block _ (hN8.keep (hg7.block _ hN8.lt (by simp; omega))).lt (by simp))).set 0
 have hb9 : Below w.heap.size w (((((((w6.setCell ⟨w.heap.size, 0, none⟩ (.int .i64 (⟨vk, vn, vs, vpl, vnl, vcl, vpm, vnm, vcm⟩ : RV).k)).setCell ⟨w.heap.size, 1, none⟩ (.int .i64 (⟨vk, vn, vs, vpl, vnl, vcl, vpm, vnm, vcm⟩ : RV).n)).setCell ⟨w.heap.size, 2, none⟩ (.string (⟨vk, vn, vs, vpl, vnl, vcl, vpm, vnm, vcm⟩ : RV).s)).setCell ⟨w.heap.size, 3, none⟩ (.slice (⟨vk, vn, vs, vpl, vnl, vcl, vpm, vnm, vcm⟩ : RV).pl (⟨vk, vn, vs, vpl, vnl, vcl, vpm, vnm, vcm⟩ : RV).nl (⟨vk, vn, vs, vpl, vnl, vcl, vpm, vnm, vcm⟩ : RV).cl)).setCell ⟨w.heap.size, 4, none⟩ (.slice (⟨vk, vn, vs, vpl, vnl, vcl, vpm, vnm, vcm⟩ : RV).pm (⟨vk, vn, vs, vpl, vnl, vcl, vpm, vnm, vcm⟩ : RV).nm (⟨vk, vn, vs, vpl, vnl, vcl, vpm, vnm, vcm⟩ : RV).cm)).setCell ⟨w.heap.size + 1, 0, none⟩ (.int .i64 0)).setCell ⟨w.heap.size + 1 + 1, 0, none⟩ (.int .i64 0)) := ((hb6.grown hg7 (by have := hb6.size; omega) (fun k e => by cases e; exact Nat.le_refl _)).grown hg8 (by have := hb6.size; simp; omega) (fun k e => by cases e; omega)).grown hg9 (by have := hb6.size; simp; omega) (fun k e => by cases e; omega)
 have hsz : w6.heap.size <= (((((((w6.setCell ⟨w.heap.size, 0, none⟩ (.int .i64 (⟨vk, vn, vs, vpl, vnl, vcl, vpm, vnm, vcm⟩ : RV).k)).setCell ⟨w.heap.size, 1, none⟩ (.int .i64 (⟨vk, vn, vs, vpl, vnl, vcl, vpm, vnm, vcm⟩ : RV).n)).setCell ⟨w.heap.size, 2, none⟩ (.string (⟨vk, vn, vs, vpl, vnl, vcl, vpm, vnm, vcm⟩ : RV).s)).setCell ⟨w.heap.size, 3, none⟩ (.slice (⟨vk, vn, vs, vpl, vnl, vcl, vpm, vnm, vcm⟩ : RV).pl (⟨vk, vn, vs, vpl, vnl, vcl, vpm, vnm, vcm⟩ : RV).nl (⟨vk, vn, vs, vpl, vnl, vcl, vpm, vnm, vcm⟩ : RV).cl)).setCell ⟨w.heap.size, 4, none⟩ (.slice (⟨vk, vn, vs, vpl, vnl, vcl, vpm, vnm, vcm⟩ : RV).pm (⟨vk, vn, vs, vpl, vnl, vcl, vpm, vnm, vcm⟩ : RV).nm (⟨vk, vn, vs, vpl, vnl, vcl, vpm, vnm, vcm⟩ : RV).cm)).setCell ⟨w.heap.size + 1, 0, none⟩ (.int .i64 0)).setCell ⟨w.heap.size + 1 + 1, 0, none⟩ (.int .i64 0)).heap.size := by simp
 have hgn := hg4.size
 have ht9 := ht6.same (w' := (((((((w6.setCell ⟨w.heap.size, 0, none⟩ (.int .i64 (⟨vk, vn, vs, vpl, vnl, vcl, vpm, vnm, vcm⟩ : RV).k)).setCell ⟨w.heap.size, 1, none⟩ (.int .i64 (⟨vk, vn, vs, vpl, vnl, vcl, vpm, vnm, vcm⟩ : RV).n)).setCell ⟨w.heap.size, 2, none⟩ (.string (⟨vk, vn, vs, vpl, vnl, vcl, vpm, vnm, vcm⟩ : RV).s)).setCell ⟨w.heap.size, 3, none⟩ (.slice (⟨vk, vn, vs, vpl, vnl, vcl, vpm, vnm, vcm⟩ : RV).pl (⟨vk, vn, vs, vpl, vnl, vcl, vpm, vnm, vcm⟩ : RV).nl (⟨vk, vn, vs, vpl, vnl, vcl, vpm, vnm, vcm⟩ : RV).cl)).setCell ⟨w.heap.size, 4, none⟩ (.slice (⟨vk, vn, vs, vpl, vnl, vcl, vpm, vnm, vcm⟩ : RV).pm (⟨vk, vn, vs, vpl, vnl, vcl, vpm, vnm, vcm⟩ : RV).nm (⟨vk, vn, vs, vpl, vnl, vcl, vpm, vnm, vcm⟩ : RV).cm)).setCell ⟨w.heap.size + 1, 0, none⟩ (.int .i64 0)).setCell ⟨w.heap.size + 1 + 1, 0, none⟩ (.int .i64 0))) (fun k hk => by
  have := hk.1
  have := hk.2
  exact ((hg9.block k (by simp; omega) (fun e => by cases e; omega)).trans (hg8.block k (by simp; omega) (fun e => by cases e; omega))).trans (hg7.block k (by omega) (fun e => by cases e; omega)))
 have hto : TreeOf (((((((w6.setCell ⟨w.heap.size, 0, none⟩ (.int .i64 (⟨vk, vn, vs, vpl, vnl, vcl, vpm, vnm, vcm⟩ : RV).k)).setCell ⟨w.heap.size, 1, none⟩ (.int .i64 (⟨vk, vn, vs, vpl, vnl, vcl, vpm, vnm, vcm⟩ : RV).n)).setCell ⟨w.heap.size, 2, none⟩ (.string (⟨vk, vn, vs, vpl, vnl, vcl, vpm, vnm, vcm⟩ : RV).s)).setCell ⟨w.heap.size, 3, none⟩ (.slice (⟨vk, vn, vs, vpl, vnl, vcl, vpm, vnm, vcm⟩ : RV).pl (⟨vk, vn, vs, vpl, vnl, vcl, vpm, vnm, vcm⟩ : RV).nl (⟨vk, vn, vs, vpl, vnl, vcl, vpm, vnm, vcm⟩ : RV).cl)).setCell ⟨w.heap.size, 4, none⟩ (.slice (⟨vk, vn, vs, vpl, vnl, vcl, vpm, vnm, vcm⟩ : RV).pm (⟨vk, vn, vs, vpl, vnl, vcl, vpm, vnm, vcm⟩ : RV).nm (⟨vk, vn, vs, vpl, vnl, vcl, vpm, vnm, vcm⟩ : RV).cm)).setCell ⟨w.heap.size + 1, 0, none⟩ (.int .i64 0)).setCell ⟨w.heap.size + 1 + 1, 0, none⟩ (.int .i64 0)) (((((((w6.setCell ⟨w.heap.size, 0, none⟩ (.int .i64 (⟨vk, vn, vs, vpl, vnl, vcl, vpm, vnm, vcm⟩ : RV).k)).setCell ⟨w.heap.size, 1, none⟩ (.int .i64 (⟨vk, vn, vs, vpl, vnl, vcl, vpm, vnm, vcm⟩ : RV).n)).setCell ⟨w.heap.size, 2, none⟩ (.string (⟨vk, vn, vs, vpl, vnl, vcl, vpm, vnm, vcm⟩ : RV).s)).setCell ⟨w.heap.size, 3, none⟩ (.slice (⟨vk, vn, vs, vpl, vnl, vcl, vpm, vnm, vcm⟩ : RV).pl (⟨vk, vn, vs, vpl, vnl, vcl, vpm, vnm, vcm⟩ : RV).nl (⟨vk, vn, vs, vpl, vnl, vcl, vpm, vnm, vcm⟩ : RV).cl)).setCell ⟨w.heap.size, 4, none⟩ (.slice (⟨vk, vn, vs, vpl, vnl, vcl, vpm, vnm, vcm⟩ : RV).pm (⟨vk, vn, vs, vpl, vnl, vcl, vpm, vnm, vcm⟩ : RV).nm (⟨vk, vn, vs, vpl, vnl, vcl, vpm, vnm, vcm⟩ : RV).cm)).setCell ⟨w.heap.size + 1, 0, none⟩ (.int .i64 0)).setCell ⟨w.heap.size + 1 + 1, 0, none⟩ (.int .i64 0)).heap.size v (⟨vk, vn, vs, vpl, vnl, vcl, vpm, vnm, vcm⟩ : RV) := ht9.tree (fun k hk => Nat.lt_of_lt_of_le (by have := hk.2; omega) hsz)
 have hts : TreeS (((((((w6.setCell ⟨w.heap.size, 0, none⟩ (.int .i64 (⟨vk, vn, vs, vpl, vnl, vcl, vpm, vnm, vcm⟩ : RV).k)).setCell ⟨w.heap.size, 1, none⟩ (.int .i64 (⟨vk, vn, vs, vpl, vnl, vcl, vpm, vnm, vcm⟩ : RV).n)).setCell ⟨w.heap.size, 2, none⟩ (.string (⟨vk, vn, vs, vpl, vnl, vcl, vpm, vnm, vcm⟩ : RV).s)).setCell ⟨w.heap.size, 3, none⟩ (.slice (⟨vk, vn, vs, vpl, vnl, vcl, vpm, vnm, vcm⟩ : RV).pl (⟨vk, vn, vs, vpl, vnl, vcl, vpm, vnm, vcm⟩ : RV).nl (⟨vk, vn, vs, vpl, vnl, vcl, vpm, vnm, vcm⟩ : RV).cl)).setCell ⟨w.heap.size, 4, none⟩ (.slice (⟨vk, vn, vs, vpl, vnl, vcl, vpm, vnm, vcm⟩ : RV).pm (⟨vk, vn, vs, vpl, vnl, vcl, vpm, vnm, vcm⟩ : RV).nm (⟨vk, vn, vs, vpl, vnl, vcl, vpm, vnm, vcm⟩ : RV).cm)).setCell ⟨w.heap.size + 1, 0, none⟩ (.int .i64 0)).setCell ⟨w.heap.size + 1 + 1, 0, none⟩ (.int .i64 0)) (fun k => w.heap.size <= k /\ k < (((((((w6.setCell ⟨w.heap.size, 0, none⟩ (.int .i64 (⟨vk, vn, vs, vpl, vnl, vcl, vpm, vnm, vcm⟩ : RV).k)).setCell ⟨w.heap.size, 1, none⟩ (.int .i64 (⟨vk, vn, vs, vpl, vnl, vcl, vpm, vnm, vcm⟩ : RV).n)).setCell ⟨w.heap.size, 2, none⟩ (.string (⟨vk, vn, vs, vpl, vnl, vcl, vpm, vnm, vcm⟩ : RV).s)).setCell ⟨w.heap.size, 3, none⟩ (.slice (⟨vk, vn, vs, vpl, vnl, vcl, vpm, vnm, vcm⟩ : RV).pl (⟨vk, vn, vs, vpl, vnl, vcl, vpm, vnm, vcm⟩ : RV).nl (⟨vk, vn, vs, vpl, vnl, vcl, vpm, vnm, vcm⟩ : RV).cl)).setCell ⟨w.heap.size, 4, none⟩ (.slice (⟨vk, vn, vs, vpl, vnl, vcl, vpm, vnm, vcm⟩ : RV).pm (⟨vk, vn, vs, vpl, vnl, vcl, vpm, vnm, vcm⟩ : RV).nm (⟨vk, vn, vs, vpl, vnl, vcl, vpm, vnm, vcm⟩ : RV).cm)).setCell ⟨w.heap.size + 1, 0, none⟩ (.int .i64 0)).setCell ⟨w.heap.size + 1 + 1, 0, none⟩ (.int .i64 0)).heap.size) v (⟨vk, vn, vs, vpl, vnl, vcl, vpm, vnm, vcm⟩ : RV) := ht9.mono (fun k hk => ⟨by have := hk.1; omega, Nat.lt_of_lt_of_le (by have := hk.2; omega) hsz⟩)
 have HTO := Lib.hid hts
 have HB9 := Lib.hid hb9
 have HV9 := Lib.hid hv9
 have HN9 := Lib.hid hN9'
 have HN10 := Lib.hid hN10
 dsimp only at HTO HB9 HV9 HN9 HN10
 clear hto hts hb9 hv9 hN9 hN9' hN10 hg7 hg8 hg9 hv7 hsz hgn ht9 ht6 hb6 hv6 hN7 hN8 hg4 hg5 hg45 hg6 ht5 hr5 hr4
 go_wp2_with fail
 refine leaves_cons (f := 77) (args := #[.pointer (some ⟨w.heap.size, 0, none⟩), .pointer (some ⟨w.heap.size + 1, 0, none⟩), .pointer (some ⟨w.heap.size + 1 + 1, 0, none⟩)]) (by simp) (by simp [go_sem]) ?_
 refine (readCatch_idle _ _ _ _).mono ?_
 rintro e u' w'' ⟨rfl, rfl, rfl⟩
 obtain ⟨W9, hW9⟩ : ∃ W, ((((((w6.setCell ⟨w.heap.size, 0, none⟩ (.int .i64 vk)).setCell ⟨w.heap.size, 1, none⟩ (.int .i64 vn)).setCell ⟨w.heap.size, 2, none⟩ (.string vs)).setCell ⟨w.heap.size, 3, none⟩ (.slice vpl vnl vcl)).setCell ⟨w.heap.size, 4, none⟩ (.slice vpm vnm vcm)).setCell ⟨w.heap.size + 1, 0, none⟩ (.int .i64 0)).setCell ⟨w.heap.size + 1 + 1, 0, none⟩ (.int .i64 0) = W := ⟨_, rfl⟩
 rw [hW9] at HTO HB9 HV9 HN9 HN10
 rw [hW9]
 clear hW9 v0 v1 v2 v3 v4 y0 y1 y2 y3 y4 x1 x2 y11 y12 c0
 obtain ⟨u0, u1, u2, u3, u4⟩ := HV9.out.cells5
 dsimp only at u0 u1 u2 u3 u4
 have x1 := HN9.out.cell
 have x2 := HN10.out.cell
 have HR : ReadRetS w v (.returned (.tuple #[RV.val (⟨vk, vn, vs, vpl, vnl, vcl, vpm, vnm, vcm⟩ : RV), .int .i64 0, .int .i64 0])) W9 := ⟨_, rfl, HTO.out, HB9.out⟩
 simp only [RV.val] at HR
 simp [Leaves, settle, results, Tryz.results38, go_sem, u0, u1, u2, u3, u4, x1, x2]
 exact HR
theorem read_any (w : World) (s : ByteArray) (v : JV) (hs : s.size <= 65536) (hv : readF s = some v) : Calls Tryz.prog 38 #[.string s] w (ReadRet w v) :=
 (readS_any w s v hs hv).mono (fun e w' h => by
  obtain ⟨r, h1, h2, h3⟩ := h
  exact ⟨r, h1, h2.tree (fun k hk => hk.2), h3⟩)
end
section
open Go
def gvN : ByteArray := ⟨#[103, 105, 118, 101, 110]⟩
def mt : ByteArray := ⟨#[]⟩
def tJ (x : ByteArray) : JV := .mk 4 0 x [] []
theorem jvok0 {k : Int} (h : (Lit.int .i64 k).wf = true) {s : ByteArray} (hs : s.size <= 140737488351232) : (JV.mk k 0 s [] []).Ok := .mk h (by decide) hs (by simp) (by simp) (fun i x hx => by simp at hx) (fun i p hp => by simp at hp) (fun i p hp => by simp at hp)
theorem jvokL {l : List JV} (h : ∀ x ∈ l, x.Ok) (hl : l.length <= 1000) : (JV.mk 5 0 mt l []).Ok := .mk (by decide) (by decide) (by decide) (by omega) (by simp) (fun i x hx => h x (List.mem_of_getElem? hx)) (fun i p hp => by simp at hp) (fun i p hp => by simp at hp)
theorem jvokM {m : List (ByteArray × JV)} (h : ∀ p ∈ m, p.1.size <= 1000 /\ p.2.Ok) (hl : m.length <= 1000) : (JV.mk 6 0 mt [] m).Ok := .mk (by decide) (by decide) (by decide) (by simp) (by omega) (fun i x hx => by simp at hx) (fun i p hp => Nat.le_trans (h p (List.mem_of_getElem? hp)).1 (by omega)) (fun i p hp => (h p (List.mem_of_getElem? hp)).2)
theorem tJ_ok {x : ByteArray} (hs : x.size <= 1000) : (tJ x).Ok := jvok0 (by decide) (by omega)
def tx20f : ByteArray := ⟨#[123, 34, 111, 112, 101, 114, 97, 116, 111, 114, 34, 58, 34, 78, 79, 84, 34, 44, 34, 99, 111, 110, 100, 105, 116, 105, 111, 110, 115, 34, 58, 91, 123, 34, 107, 105, 110, 100, 34, 58, 34, 103, 114, 111, 117, 112, 34, 125, 93, 125]⟩
def tx20g : ByteArray := ⟨#[123, 34, 99, 111, 108, 111, 114, 34, 58, 34, 114, 101, 100, 34, 125]⟩
def tx20h : ByteArray := ⟨#[123, 34, 105, 110, 65, 100, 100, 114, 101, 115, 115, 66, 111, 111, 107, 34, 58, 53, 125]⟩
def tx20v : ByteArray := ⟨#[123, 34, 117, 105, 100, 34, 58, 34, 117, 34, 44, 34, 110, 97, 109, 101, 34, 58, 123, 34, 102, 117, 108, 108, 34, 58, 34, 65, 100, 97, 34, 44, 34, 99, 111, 109, 112, 111, 110, 101, 110, 116, 115, 34, 58, 91, 123, 34, 107, 105, 110, 100, 34, 58, 34, 103, 105, 118, 101, 110, 34, 44, 34, 118, 97, 108, 117, 101, 34, 58, 34, 65, 34, 125, 93, 125, 125]⟩
def f20J : JV := .mk 6 0 mt [] [(svOper, tJ svNot), (svConds, .mk 5 0 mt [.mk 6 0 mt [] [(kindN, tJ (⟨#[103, 114, 111, 117, 112]⟩))]] [])]
def g20J : JV := .mk 6 0 mt [] [(⟨#[99, 111, 108, 111, 114]⟩, tJ (⟨#[114, 101, 100]⟩))]
def h20J : JV := .mk 6 0 mt [] [(svInBook, .mk 3 5 mt [] [])]
def v20J : JV := .mk 6 0 mt [] [(svUid, tJ (⟨#[117]⟩)), (nameN, .mk 6 0 mt [] [(⟨#[102, 117, 108, 108]⟩, tJ (⟨#[65, 100, 97]⟩)), (compN, .mk 5 0 mt [.mk 6 0 mt [] [(kindN, tJ gvN), (valueN, tJ (⟨#[65]⟩))]] [])])]
def n20J : JV := .mk 1 0 mt [] []
theorem read20_f : readF tx20f = some f20J := by kernel_rfl
theorem read20_g : readF tx20g = some g20J := by kernel_rfl
theorem read20_h : readF tx20h = some h20J := by kernel_rfl
theorem read20_v : readF tx20v = some v20J := by kernel_rfl
theorem aw20_1 : holdsJ f20J v20J = true := by kernel_rfl
theorem aw20_2 : checkJ g20J = 200 := by kernel_rfl
theorem aw20_3 : checkJ h20J = 1 := by kernel_rfl
theorem aw20_4 : textsJ v20J svText = [⟨#[65, 100, 97]⟩, ⟨#[65]⟩] := by kernel_rfl
theorem aw20_5 : holdsJ n20J v20J = true := by kernel_rfl
theorem aw20_c : countT f20J <= 100000 /\ countT g20J <= 100000 /\ countT h20J <= 100000 /\ countT v20J <= 100000 /\ sizeT v20J <= 4000000000 /\ countT n20J <= 100000 := by decide +kernel
theorem g20_ok : g20J.Ok := jvokM (fun p hp => by
 rw [List.mem_singleton] at hp
 subst hp
 exact ⟨by decide, tJ_ok (by decide)⟩) (by decide)
theorem h20_ok : h20J.Ok := jvokM (fun p hp => by
 rw [List.mem_singleton] at hp
 subst hp
 exact ⟨by decide, .mk (by decide) (by decide) (by decide) (by simp) (by simp) (fun i x hx => by simp at hx) (fun i p hp => by simp at hp) (fun i p hp => by simp at hp)⟩) (by decide)
theorem n20_ok : n20J.Ok := jvok0 (by decide) (by decide)
theorem f20_ok : f20J.Ok := by
 refine jvokM (fun p hp => ?_) (by decide)
 rcases List.mem_cons.1 hp with rfl | hp
 ·exact ⟨by decide, tJ_ok (by decide)⟩
 rw [List.mem_singleton] at hp
 subst hp
 refine ⟨show svConds.size <= 1000 by decide, jvokL (fun y hy => ?_) (by decide)⟩
 rw [List.mem_singleton] at hy
 subst hy
 refine jvokM (fun p hp => ?_) (by decide)
 rw [List.mem_singleton] at hp
 subst hp
 exact ⟨by decide, tJ_ok (by decide)⟩
theorem v20_ok : v20J.Ok := by
 refine jvokM (fun p hp => ?_) (by decide)
 rcases List.mem_cons.1 hp with rfl | hp
 ·exact ⟨by decide, tJ_ok (by decide)⟩
 rw [List.mem_singleton] at hp
 subst hp
 refine ⟨show nameN.size <= 1000 by decide, jvokM (fun p hp => ?_) (by decide)⟩
 rcases List.mem_cons.1 hp with rfl | hp
 ·exact ⟨by decide, tJ_ok (by decide)⟩
 rw [List.mem_singleton] at hp
 subst hp
 refine ⟨show compN.size <= 1000 by decide, jvokL (fun y hy => ?_) (by decide)⟩
 rw [List.mem_singleton] at hy
 subst hy
 refine jvokM (fun p hp => ?_) (by decide)
 rcases List.mem_cons.1 hp with rfl | hp
 ·exact ⟨by decide, tJ_ok (by decide)⟩
 ·rw [List.mem_singleton] at hp
  subst hp
  exact ⟨by decide, tJ_ok (by decide)⟩
end
section
open Go Go.RowKit Go.OpenShut
theorem askV_yes {n : ByteArray} (h : askB n = true) : ∃ k, askV n = some (fnV k) := by
 unfold askV
 repeat' split
 all_goals first | exact ⟨_, rfl⟩ | skip
 rename_i h1 h2 h3 h4 h5 h6 h7 h8
 unfold askB stampB at h
 simp [h1, h2, h3, h4, h5, h6, h7, h8] at h
theorem askV_no {n : ByteArray} (h : askB n = false) : askV n = none := by
 unfold askB stampB at h
 simp only [Bool.or_eq_false_iff, decide_eq_false_iff_not] at h
 obtain ⟨h1, h2, h3, h4, h5, h6, h7, h8⟩ := h
 unfold askV
 rw [if_neg h8, if_neg h7, if_neg h6, if_neg h5, if_neg h4, if_neg h3, if_neg h2, if_neg h1]
theorem func_some (k : Nat) (w : World) : (binOp BinOp.eql 133 (.func (.func k) #[] #[]) .nilFunc).run Tryz.prog w = .ok (.bool false) w := by kernel_rfl
theorem func_nil (w : World) : (binOp BinOp.eql 133 .nilFunc .nilFunc).run Tryz.prog w = .ok (.bool true) w := by kernel_rfl
theorem rightC_of (n : ByteArray) (x : JV) : rightC n x = ((decide (x.k = 4) && (decide (x.s.size <= 255) && (decide (x.s.size <= 64) || !isFieldB n))) && ((!decide (n = svInBook) || idB x.s) && (!stampB n || (secF x.s.data.toList).isSome))) := by
 unfold rightC
 cases decide (x.k = 4) <;> cases decide (x.s.size <= 255) <;> cases decide (x.s.size <= 64) <;> cases isFieldB n <;> rfl
theorem cond_any (name : ByteArray) (x : JV) (r : RV) (hk : r.k = x.k) (hs : r.s = x.s) (hsn : name.size <= maxLen) (hss : x.s.size <= maxLen) (w : World) (hall : AllAt w) :
 Calls Tryz.prog 87 #[RM.val ⟨name, r⟩] w fun e w' => e = .returned (.int .i64 (condE name x)) /\ Below w.heap.size w w' := by
 obtain ⟨k, n, s, pl, nl, cl, pm, nm, cm⟩ := r
 dsimp only [RM.val] at *
 subst hk hs
 have hh : (w.alloc (.cells #[.string name, .int .i64 x.k, .int .i64 n, .string x.s, .slice pl nl cl, .slice pm nm cm] 32)).heap[w.heap.size]? = some (.cells #[.string name, .int .i64 x.k, .int .i64 n, .string x.s, .slice pl nl cl, .slice pm nm cm] 32) := heap_alloc_at rfl
 have hb0 : Below w.heap.size w (w.alloc (.cells #[.string name, .int .i64 x.k, .int .i64 n, .string x.s, .slice pl nl cl, .slice pm nm cm] 32)) := (Below.refl _ _).alloc (Nat.le_refl _) _
 have HFI : Hid (∀ W, Below w.heap.size w W -> Calls Tryz.prog 114 #[.string name] W fun e w' => e = .returned (.bool (isFieldB name)) /\ W = w') := fun W hW => field_is name W (hall.below hW)
 have HID : Hid (∀ W, Calls Tryz.prog 115 #[.string x.s] W fun e w' => e = .returned (.bool (idB x.s)) /\ w' = W) := fun W => identIs_any x.s W hss
 have HST : Hid (∀ W, Calls Tryz.prog 116 #[.string x.s] W fun e w' => e = .returned (.bool (secF x.s.data.toList).isSome) /\ Below W.heap.size W w') := fun W => stampIs_any x.s W hss
 have HAV : Hid (∀ W b, AsksAt W b -> (Instr.lookup 131 (.map (some b)) (.string name) false).run Tryz.prog W = .ok ((askV name).getD .nilFunc) W) := fun W b h => h.look hsn
 have HAY : Hid (askB name = true -> ∃ k, askV name = some (fnV k)) := askV_yes
 have HAN : Hid (askB name = false -> askV name = none) := askV_no
 have HE : Hid (condE name x = if askB name || isFieldB name then (if ((decide (x.k = 4) && (decide (x.s.size <= 255) && (decide (x.s.size <= 64) || !isFieldB name))) && ((!decide (name = svInBook) || idB x.s) && (!stampB name || (secF x.s.data.toList).isSome))) then 0 else 1) else 200) := by
  unfold Hid
  rw [<- rightC_of]
  rfl
 obtain ⟨E, hE⟩ : ∃ E, condE name x = E := ⟨_, rfl⟩
 obtain ⟨A, hA⟩ : ∃ A, askB name = A := ⟨_, rfl⟩
 obtain ⟨F, hF⟩ : ∃ A, isFieldB name = A := ⟨_, rfl⟩
 obtain ⟨I, hI⟩ : ∃ A, idB x.s = A := ⟨_, rfl⟩
 obtain ⟨T, hT⟩ : ∃ A, (secF x.s.data.toList).isSome = A := ⟨_, rfl⟩
 obtain ⟨av, hav⟩ : ∃ a, askV name = a := ⟨_, rfl⟩
 rw [hE, hA, hF, hI, hT] at HE
 rw [hE]
 rw [hF] at HFI
 rw [hI] at HID
 rw [hT] at HST
 rw [hA] at HAY HAN
 rw [hav] at HAV HAY HAN
 obtain ⟨K, hK⟩ : ∃ K, x.k = K := ⟨_, rfl⟩
 obtain ⟨S, hS⟩ : ∃ S, x.s = S := ⟨_, rfl⟩
 rw [hK, hS] at HE hh hb0
 rw [hS] at HID HST
 rw [hK, hS]
 obtain ⟨W0, hW0⟩ : ∃ W, w.alloc (.cells #[.string name, .int .i64 K, .int .i64 n, .string S, .slice pl nl cl, .slice pm nm cm] 32) = W := ⟨_, rfl⟩
 rw [hW0] at hh hb0
 have HB0 := Lib.hid hb0
 have hw0 := hb0.size
 have hz := (Array.getElem?_eq_some_iff.1 hh).1
 have a0 : W0.cell? ⟨w.heap.size, 0, none⟩ = some (.string name) := (cell_of_row W0 w.heap.size 0 _ _ _ hh).trans rfl
 have a1 : W0.cell? ⟨w.heap.size, 1, none⟩ = some (.int .i64 K) := (cell_of_row W0 w.heap.size 1 _ _ _ hh).trans rfl
 have a3 : W0.cell? ⟨w.heap.size, 3, none⟩ = some (.string S) := (cell_of_row W0 w.heap.size 3 _ _ _ hh).trans rfl
 have hsz : (0 : Int) <= (S.size : Int) := Int.natCast_nonneg _
 clear hh hb0 hE hA hF hI hT hav hK hS hall hss
 go_enter Tryz.func87, Tryz.ntmps87
 go_upto_region 1 with fail
 try rw [hW0]
 clear hW0
 have hb00 : Below W0.heap.size W0 W0.drew := (Below.refl _ _).drew
 have HF0 : Hid (∀ W, Below W0.heap.size W0 W -> Calls Tryz.prog 114 #[.string name] W fun e w' => e = .returned (.bool F) /\ W = w') := fun W hW => HFI.out W (HB0.out.trans (hW.mono hw0))
 go_cut [14] from 4 to 14 (fun v wx => v = .bool (!A && !F) /\ Hid (Below W0.heap.size W0 wx))
 case first =>
  cases A with
  | true =>
    obtain ⟨kk, hkk⟩ := HAY.out rfl
    rw [hkk] at HAV
    unfold fnV at HAV
    dsimp only [Option.getD] at HAV
    clear hkk HAY HAN
    have hfs := func_some
    first
     | (go_region_with
      (first
       | (go_at_call 93
          (with_reducible refine (asks_any _).mono ?_)
          rintro e w1 ⟨b, rfl, hA1, hlb, hb1'⟩
          have hb1 : Below W0.heap.size W0 w1 := hb00.trans hb1'
          have hlk := HAV.out w1 b hA1
          have c0 := bcs hb1 hz a0)
       | fail))
     | fail
    all_goals go_wp2_with fail
    all_goals go_meet
    all_goals exact ⟨rfl, hb1⟩
  | false =>
    rw [HAN.out rfl] at HAV
    dsimp only [Option.getD] at HAV
    clear HAY HAN
    have hfs := func_nil
    go_region_law
     (first
      | (go_simp; go_at_call 93
         (with_reducible refine (asks_any _).mono ?_)
         rintro e w1 ⟨b, rfl, hA1, hlb, hb1'⟩
         have hb1 : Below W0.heap.size W0 w1 := hb00.trans hb1'
         have hlk := HAV.out w1 b hA1
         have c0 := bcs hb1 hz a0)
      | (go_simp; go_at_call 114
         (with_reducible refine (HF0.out _ hb1).mono ?_)
         rintro e w2 ⟨rfl, rfl⟩)
      | fail)
    all_goals go_wp2_with fail
    all_goals go_meet
    all_goals exact ⟨rfl, hb1⟩
 case rest =>
 obtain ⟨rfl, HB1⟩ := hcut
 obtain ⟨W1, rfl⟩ : ∃ W, W = wc := ⟨_, rfl⟩
 have c0 := bcs HB1.out hz a0
 have c1 := bcs HB1.out hz a1
 have c3 := bcs HB1.out hz a3
 have hz1 := Nat.lt_of_lt_of_le hz HB1.out.size
 have HBW : Hid (Below w.heap.size w W1) := HB0.out.trans (HB1.out.mono hw0)
 have hw1 := HBW.out.size
 have HF1 : Hid (Calls Tryz.prog 114 #[.string name] W1 fun e w' => e = .returned (.bool F) /\ W1 = w') := HFI.out W1 HBW.out
 clear a0 a1 a3 hz HF0 HAV HAY HAN HFI hb00 HB1 HB0
 by_cases hAF : (A || F) = true
 ·have hn : (!A && !F) = false := by revert hAF; cases A <;> cases F <;> decide
  rw [hn]
  obtain ⟨k4, hk4⟩ : ∃ b, decide (K = 4) = b := ⟨_, rfl⟩
  obtain ⟨c255, h255⟩ : ∃ b, decide (S.size <= 255) = b := ⟨_, rfl⟩
  obtain ⟨c64, h64⟩ : ∃ b, decide (S.size <= 64) = b := ⟨_, rfl⟩
  have q4 : (K == 4) = k4 := by rw [<- hk4]; rfl
  have q255 : decide ((S.size : Int) <= 255) = c255 := by rw [<- h255]; exact decide_eq_decide.2 (by omega)
  have q64 : decide ((S.size : Int) <= 64) = c64 := by rw [<- h64]; exact decide_eq_decide.2 (by omega)
  have q255' : decide (S.size <= 255) = c255 := h255
  have q64' : decide (S.size <= 64) = c64 := h64
  have HE1 : Hid (E = if ((k4 && (c255 && (c64 || !F))) && ((!decide (name = svInBook) || I) && (!stampB name || T))) then 0 else 1) := by
   unfold Hid
   rw [HE.out, if_pos hAF, hk4, h255, h64]
  clear hk4 h255 h64 hAF HE hn
  go_upto_region 3 with fail
  go_cut [3] from 15 to 38 (fun v wx => v = .bool (k4 && (c255 && (c64 || !F))) /\ W1 = wx)
  case first =>
   cases k4 <;> cases c255 <;> cases c64
   all_goals
    go_wp2_with (go_at_call 114; (with_reducible refine HF1.out.mono ?_); rintro e w2 ⟨rfl, rfl⟩)
    go_meet
    exact ⟨rfl, rfl⟩
  case rest =>
  obtain ⟨rfl, rfl⟩ := hcut
  obtain ⟨R, hR⟩ : ∃ R, (k4 && (c255 && (c64 || !F))) = R := ⟨_, rfl⟩
  rw [hR] at HE1 ⊢
  clear hR q4 q255 q64 q255' q64' HF1
  have HID1 := Lib.hid (HID.out W1)
  have HST1 := Lib.hid (HST.out W1)
  clear HID HST
  by_cases h1 : name = svInBook
  ·have HE2 : Hid (E = if R && I then 0 else 1) := by
    unfold Hid
    rw [HE1.out, h1]
    cases R <;> cases I <;> rfl
   subst h1
   unfold svInBook at c0 ⊢
   clear HE1
   cases R <;> cases I
   all_goals
    go_wp2_with (go_at_call 115; (with_reducible refine HID1.out.mono ?_); rintro e w2 ⟨rfl, rfl⟩)
    go_ret
    exact ⟨by rw [HE2.out]; rfl, HBW.out⟩
  by_cases h2 : stampB name = true
  ·have HE2 : Hid (E = if R && T then 0 else 1) := by
    unfold Hid
    rw [HE1.out, decide_eq_false h1, h2]
    cases R <;> cases T <;> rfl
   have h3 : name = svCrBef \/ name = svCrAft \/ name = svUpBef \/ name = svUpAft := by
    unfold stampB at h2
    simpa using h2
   clear h1 h2 HE1
   rcases h3 with rfl | rfl | rfl | rfl
   all_goals
    try unfold svCrBef at *
    try unfold svCrAft at *
    try unfold svUpBef at *
    try unfold svUpAft at *
    cases R <;> cases T
   all_goals
    go_wp2_with (go_at_call 116; (with_reducible refine HST1.out.mono ?_); rintro e w2 ⟨rfl, hb2⟩)
    go_ret
    first
     | exact ⟨by rw [HE2.out]; rfl, HBW.out.trans (hb2.mono hw1)⟩
     | exact ⟨by rw [HE2.out]; rfl, HBW.out⟩
  ·have HE2 : Hid (E = if R then 0 else 1) := by
    unfold Hid
    rw [HE1.out, decide_eq_false h1, Bool.eq_false_iff.2 h2]
    cases R <;> rfl
   unfold stampB at h2
   simp only [Bool.or_eq_true, decide_eq_true_eq, not_or] at h2
   obtain ⟨n2, n3, n4, n5⟩ := h2
   have q1 : (name.toList == [105, 110, 65, 100, 100, 114, 101, 115, 115, 66, 111, 111, 107]) = false := by rw [<- bytes_dec]; exact decide_eq_false h1
   have q2 : (name.toList == [99, 114, 101, 97, 116, 101, 100, 66, 101, 102, 111, 114, 101]) = false := by rw [<- bytes_dec]; exact decide_eq_false n2
   have q3 : (name.toList == [99, 114, 101, 97, 116, 101, 100, 65, 102, 116, 101, 114]) = false := by rw [<- bytes_dec]; exact decide_eq_false n3
   have q4 : (name.toList == [117, 112, 100, 97, 116, 101, 100, 66, 101, 102, 111, 114, 101]) = false := by rw [<- bytes_dec]; exact decide_eq_false n4
   have q5 : (name.toList == [117, 112, 100, 97, 116, 101, 100, 65, 102, 116, 101, 114]) = false := by rw [<- bytes_dec]; exact decide_eq_false n5
   clear h1 n2 n3 n4 n5 HE1
   cases R
   all_goals
    go_wp2_with fail
    go_ret
    exact ⟨by rw [HE2.out]; rfl, HBW.out⟩
 ·have hn : (!A && !F) = true := by revert hAF; cases A <;> cases F <;> decide
  have HE2 : Hid (E = 200) := by unfold Hid; rw [HE.out, if_neg hAF]
  rw [hn]
  clear hAF HE hn
  go_wp2_with fail
  go_ret
  exact ⟨by rw [HE2.out]; rfl, HBW.out⟩
theorem getD_ok {t : JV} {n : ByteArray} (h : t.Ok) : ((t.get n).getD JV.zero).Ok := by
 cases hx : t.get n with
 | none => exact .mk (by decide) (by decide) (by decide) (by decide) (by decide) (fun i x h => by simp at h) (fun i p h => by simp at h) (fun i p h => by simp at h)
 | some x => exact h.get hx
theorem condsL_ok {t : JV} (h : t.Ok) : (condsL t).length <= 1759218604390 /\ ∀ (i : Nat) x, (condsL t)[i]? = some x -> x.Ok := by
 have := getD_ok (n := svConds) h
 unfold condsL
 generalize (t.get svConds).getD JV.zero = z at this
 cases this with
 | mk _ _ _ b _ c _ _ => exact ⟨b, c⟩
theorem m_ok {t : JV} (h : t.Ok) : t.m.length <= 1466015503658 /\ (∀ (i : Nat) p, t.m[i]? = some p -> p.1.size <= 140737488351232) /\ ∀ (i : Nat) p, t.m[i]? = some p -> p.2.Ok := by
 cases h with
 | mk _ _ _ _ b _ c d => exact ⟨b, c, d⟩
theorem Ok_s {t : JV} (h : t.Ok) : t.s.size <= maxLen := by
 have := h.s_le.1
 unfold maxLen
 omega
theorem opr_any (t : JV) (r : RV) (w : World) (B : Nat) (hBw : B <= w.heap.size) (ht : TreeOf w B t r) (ot : t.Ok) :
 Calls Tryz.prog 88 #[r.val] w fun e w' => ∃ v, e = .returned (.tuple #[.string ((t.get svOper).getD JV.zero).s, v, .bool (opOk t)]) /\ TlOf w' B v (condsL t) /\ Below w.heap.size w w' := by
 obtain ⟨W0, hW0⟩ : ∃ W0, w.alloc r.obj = W0 := ⟨_, rfl⟩
 have hA0 : VAt W0 w.heap.size r := by rw [<- hW0]; exact heap_alloc_at rfl
 have hB0 : Below w.heap.size w W0 := by rw [<- hW0]; exact (Below.refl _ _).alloc (Nat.le_refl _) _
 have hw0 := hB0.size
 have hBw0 : B <= W0.heap.size := Nat.le_trans hBw hw0
 have HTR : Hid (∀ W, Below W0.heap.size W0 W -> TreeOf W B t r) := fun W hW => (ht.under (hB0.mono hBw) (Nat.le_refl _)).under (hW.mono hBw0) (Nat.le_refl _)
 have HC : Hid (Calls Tryz.prog 15 #[r.val, .string svOper] W0 (GetRetB W0 B (t.get svOper))) := getB_any t r svOper W0 B hBw0 (HTR.out W0 (Below.refl _ _)) ot
 have HD : Hid (∀ W, Below W0.heap.size W0 W -> Calls Tryz.prog 15 #[r.val, .string svConds] W (GetRetB W B (t.get svConds))) := fun W hW => getB_any t r svConds W B (Nat.le_trans hBw0 hW.size) (HTR.out W hW) ot
 have hml : t.m.length = r.nm := by
  obtain ⟨rms, h1, h2, _⟩ := ht.ml
  have := rd_nlen h1
  omega
 have HOP : Hid (opOk t = (decide (r.nm = 2) && (decide (((t.get svOper).getD JV.zero).k = 4) && ((decide (((t.get svOper).getD JV.zero).s = svAnd) || (decide (((t.get svOper).getD JV.zero).s = svOr) || decide (((t.get svOper).getD JV.zero).s = svNot))) && decide (((t.get svConds).getD JV.zero).k = 5))))) := by
  unfold Hid opOk
  rw [hml]
 have HCL : Hid (condsL t = ((t.get svConds).getD JV.zero).l) := rfl
 obtain ⟨OK, hOK⟩ : ∃ b, opOk t = b := ⟨_, rfl⟩
 obtain ⟨CL, hCL⟩ : ∃ b, condsL t = b := ⟨_, rfl⟩
 rw [hOK] at HOP
 rw [hCL] at HCL
 rw [hOK, hCL]
 obtain ⟨X, hX⟩ : ∃ X, t.get svOper = X := ⟨_, rfl⟩
 obtain ⟨Y, hY⟩ : ∃ X, t.get svConds = X := ⟨_, rfl⟩
 rw [hX] at HC HOP
 rw [hY] at HD HOP HCL
 rw [hX]
 unfold svOper at HC
 unfold svConds at HD
 obtain ⟨k, n, s, pl, nl, cl, pm, nm, cm⟩ := r
 dsimp only [RV.val, RV.obj] at *
 have HB0 := Lib.hid hB0
 clear hB0 ht ot hOK hCL hX hY hml
 go_enter Tryz.func88, Tryz.ntmps88
 go_upto_region 1 with fail
 try rw [hW0]
 clear hW0
 obtain ⟨a0, a1, a2, a3, a4⟩ := hA0.cells5
 have hz0 := hA0.lt
 clear hA0
 go_upto_region 2 with (go_at_call 15; refine HC.out.mono ?_; rintro e w1 ⟨rv, bb, rfl, hbb, ht1, hb1⟩; obtain ⟨rk, rn, rS, rpl, rnl, rcl, rpm, rnm, rcm⟩ := rv)
 have hxx := ht1.kk
 dsimp only at hxx
 have hb2 : Below W0.heap.size W0 (w1.alloc (.cells #[.int .i64 rk, .int .i64 rn, .string rS, .slice rpl rnl rcl, .slice rpm rnm rcm] 25)) := hb1.alloc hb1.size _
 have hv2 : VAt (w1.alloc (.cells #[.int .i64 rk, .int .i64 rn, .string rS, .slice rpl rnl rcl, .slice rpm rnm rcm] 25)) w1.heap.size ⟨rk, rn, rS, rpl, rnl, rcl, rpm, rnm, rcm⟩ := heap_alloc_at rfl
 obtain ⟨g, hg⟩ : ∃ g, w1.heap.size = g := ⟨_, rfl⟩
 obtain ⟨W2, hW2⟩ : ∃ W, w1.alloc (.cells #[.int .i64 rk, .int .i64 rn, .string rS, .slice rpl rnl rcl, .slice rpm rnm rcm] 25) = W := ⟨_, rfl⟩
 rw [hW2] at hb2 hv2
 rw [hg] at hv2
 try rw [hW2]
 try rw [hg]
 have b0 := bcs hb2 hz0 a0
 have b1 := bcs hb2 hz0 a1
 have b2 := bcs hb2 hz0 a2
 have b3 := bcs hb2 hz0 a3
 have b4 := bcs hb2 hz0 a4
 have HB2 := Lib.hid hb2
 have HV2 := Lib.hid hv2
 have HXX := Lib.hid hxx
 have hz2 := Nat.lt_of_lt_of_le hz0 hb2.size
 have HDC := Lib.hid (HD.out W2 hb2)
 clear hW2 hg hb1 ht1 hb2 hv2 hxx a0 a1 a2 a3 a4 hbb HD HC
 go_upto_region 3 with (go_at_call 15; refine HDC.out.mono ?_; rintro e w3 ⟨rv, b3', rfl, hbb, ht1, hb1⟩; obtain ⟨qk, qn, qS, qpl, qnl, qcl, qpm, qnm, qcm⟩ := rv)
 have hyy := ht1.kk
 dsimp only at hyy
 have hb3 : Below W2.heap.size W2 (w3.alloc (.cells #[.int .i64 qk, .int .i64 qn, .string qS, .slice qpl qnl qcl, .slice qpm qnm qcm] 25)) := hb1.alloc hb1.size _
 have hv3 : VAt (w3.alloc (.cells #[.int .i64 qk, .int .i64 qn, .string qS, .slice qpl qnl qcl, .slice qpm qnm qcm] 25)) w3.heap.size ⟨qk, qn, qS, qpl, qnl, qcl, qpm, qnm, qcm⟩ := heap_alloc_at rfl
 have ht3 := (ht1.tl).under ((Below.refl B w3).alloc (Nat.le_trans (Nat.le_trans hBw0 HB2.out.size) hb1.size) (.cells #[.int .i64 qk, .int .i64 qn, .string qS, .slice qpl qnl qcl, .slice qpm qnm qcm] 25)) (Nat.le_refl _)
 have hv23 := HV2.out.under hb3 HV2.out.lt
 dsimp only at ht3
 obtain ⟨g3, hg3⟩ : ∃ g, w3.heap.size = g := ⟨_, rfl⟩
 obtain ⟨W3, hW3⟩ : ∃ W, w3.alloc (.cells #[.int .i64 qk, .int .i64 qn, .string qS, .slice qpl qnl qcl, .slice qpm qnm qcm] 25) = W := ⟨_, rfl⟩
 rw [hW3] at hb3 hv3 ht3 hv23
 rw [hg3] at hv3
 try rw [hW3]
 try rw [hg3]
 have c4 := bcs hb3 hz2 b4
 have x0 := hv23.cell 0 rfl
 have x2 := hv23.cell 2 rfl
 have y0 := hv3.cell 0 rfl
 have y3 := hv3.cell 3 rfl
 dsimp only at x0 x2 y0 y3
 have HB3 : Hid (Below w.heap.size w W3) := HB0.out.trans ((HB2.out.trans (hb3.mono HB2.out.size)).mono hw0)
 have HYY := Lib.hid hyy
 have HTL : Hid (TlOf W3 B (.slice qpl qnl qcl) CL) := by
  unfold Hid
  rw [HCL.out]
  exact ht3
 clear hW3 hg3 hb1 ht1 hb3 hv3 ht3 hv23 hyy b0 b1 b2 b3 b4 hbb HDC hz2 hz0
 have HO2 : Hid (OK = (decide (nm = 2) && (decide (rk = 4) && ((decide (rS = svAnd) || (decide (rS = svOr) || decide (rS = svNot))) && decide (qk = 5))))) := by
  unfold Hid
  rw [HOP.out, HXX.out.1, HXX.out.2, HYY.out.1]
 clear HOP HYY
 have nm0 : (0 : Int) <= (nm : Int) := Int.natCast_nonneg _
 obtain ⟨e1, h1⟩ : ∃ b, (rS.toList == [65, 78, 68]) = b := ⟨_, rfl⟩
 obtain ⟨e2, h2⟩ : ∃ b, (rS.toList == [79, 82]) = b := ⟨_, rfl⟩
 obtain ⟨e3, h3⟩ : ∃ b, (rS.toList == [78, 79, 84]) = b := ⟨_, rfl⟩
 obtain ⟨b2, g2⟩ : ∃ b, decide (nm = 2) = b := ⟨_, rfl⟩
 obtain ⟨b4, g4⟩ : ∃ b, decide (rk = 4) = b := ⟨_, rfl⟩
 obtain ⟨b5, g5⟩ : ∃ b, decide (qk = 5) = b := ⟨_, rfl⟩
 have HO3 : Hid (OK = (b2 && (b4 && ((e1 || (e2 || e3)) && b5)))) := by
  unfold Hid
  rw [HO2.out, g2, g4, g5, <- h1, <- h2, <- h3, <- bytes_dec, <- bytes_dec, <- bytes_dec]
  rfl
 have q2 : ((nm : Int) == 2) = b2 := by rw [<- g2, Bool.eq_iff_iff]; simp; omega
 have q2' : (nm == 2) = b2 := by rw [<- g2]; rfl
 have q4 : (rk == 4) = b4 := by rw [<- g4]; rfl
 have q5 : (qk == 5) = b5 := by rw [<- g5]; rfl
 clear g2 g4 g5 HO2
 go_cut [9] from 20 to 48 (fun v wx => v = .bool OK /\ W3 = wx)
 case first =>
  cases b2 <;> cases b4 <;> cases b5 <;> cases e1 <;> cases e2 <;> cases e3
  all_goals
   go_wp2_with fail
   go_meet
   exact ⟨by rw [HO3.out]; rfl, rfl⟩
 case rest =>
 obtain ⟨rfl, rfl⟩ := hcut
 clear h1 h2 h3 q2 q2' q4 q5
 go_upto_region 4 with fail
 go_region
 all_goals go_wp2_with fail
 all_goals
  rw [<- HXX.out.2]
  refine bodyPost_ret (v := .tuple #[.string rS, .slice qpl qnl qcl, .bool OK]) (by simp [results, Tryz.results88, go_sem]) rfl ⟨_, rfl, ?_, ?_⟩
 all_goals first
  | exact HTL.out
  | exact HB3.out
  | exact HTL.out.under ((Below.refl _ _).drew) (Nat.le_refl _)
  | exact HB3.out.drew
end
end Go.Proofs.YtffhccmppdgmfaaGreatDoor
