import Derived.Test.YtjhginendpjimaaGreatDoorB00
import Derived.Test.YtjhginendpjimaaGreatDoorB02
import Derived.Test.YtjhginendpjimaaGreatDoorB07
import Derived.Shelf.Small.Strs
import Derived.Shelf.Strings.Prefix
import Derived.Test.YtjhginendpjimaaGreatDoorProg
set_option linter.unusedSimpArgs false
set_option linter.unusedVariables false
set_option maxRecDepth 200000
set_option maxHeartbeats 8000000
namespace Go.Proofs.YtjhginendpjimaaGreatDoor
section
open Go Go.RowKit Go.OpenShut
theorem okCh_iff {c : UInt8} (h : okCh c = true) : 32 <= c.toNat /\ c.toNat < 128 /\ c.toNat ≠ 34 /\ c.toNat ≠ 92 := by
 unfold okCh at h
 simp only [Bool.and_eq_true, decide_eq_true_eq] at h
 exact ⟨h.1.1.1, h.1.1.2, h.1.2, h.2⟩
theorem one_ascii {s : ByteArray} {i : Nat} (hi : i < s.size) (h : s[i]!.toNat < 128) : (oneU s i).2 = 1 := by
 rw [get_bang s i hi] at h
 have hz : szN s[i].toNat = 1 := by unfold szN; rw [if_pos h]
 rw [oneU_at hi, hz, if_neg (by omega)]
 rfl
theorem cut_step {s : ByteArray} {a k : Nat} (h1 : a <= k) (h2 : k < s.size) : (s.data.toList.drop a).take (k + 1 - a) = (s.data.toList.drop a).take (k - a) ++ [s[k]!] := by
 rw [show k + 1 - a = (k - a) + 1 by omega, List.take_add_one]
 congr 1
 rw [List.getElem?_drop, show a + (k - a) = k by omega, List.getElem?_eq_getElem (by rw [Array.length_toList]; exact h2), get_bang s k h2]
 rfl
theorem ext_list (s : ByteArray) (a b : Nat) : (s.extract a b).data.toList = (s.data.toList.drop a).take (b - a) := by
 rw [ByteArray.data_extract, Array.toList_extract]
theorem ext_one {s : ByteArray} {k : Nat} (h : k < s.size) : (s.extract k (k + 1)).data.toList = [s[k]!] := by
 have h1 := cut_step (s := s) (a := k) (k := k) (Nat.le_refl _) h
 rw [ext_list, h1, Nat.sub_self]
 rfl
theorem cread_plain (s : ByteArray) (i j : Nat) (w : World) (hs : s.size <= 65536) (hij : i < j) (hj : j < s.size) (h0 : s[i]!.toNat = 34) (hm : ∀ k, i < k -> k < j -> okCh s[k]! = true) (h1 : s[j]!.toNat = 34) :
 Calls Tryz.prog 84 #[.string s, .int .i64 i] w fun e w' => e = .returned (.tuple #[.string (cutB s (i + 1) j), .int .i64 ((j : Int) + 1), .int .i64 0]) /\ Below w.heap.size w w' := by
 have hi : i < s.size := by omega
 rw [get_bang s i hi] at h0
 have HM : Hid (∀ k, i < k -> k < j -> okCh s[k]! = true) := hm
 have HJ : Hid (s[j]!.toNat = 34) := h1
 have HIJ : Hid (i < j /\ j < s.size /\ s.size <= 65536) := ⟨hij, hj, hs⟩
 have a0 : (0 : Int) <= (i : Int) := Int.natCast_nonneg _
 have a1 : (i : Int) < (s.size : Int) := by omega
 have a2 : i < 4398046510976 := by omega
 have q1 : decide ((i : Int) < 0) = false := by simp
 have q2 : decide (s.size <= i) = false := by simp; omega
 clear hm h1
 go_enter Tryz.func84, Tryz.ntmps84
 go_wp2_with fail
 go_loopw [7, 8] (fun v o wr => ∃ k : Nat, i + 1 <= k /\ k <= j /\ o = .int .i64 (k : Int) /\ Hid (OwnU wr w.heap.size v ((s.data.toList.drop (i + 1)).take (k - (i + 1))) /\ Below w.heap.size w wr)) (fun _ o _ => j - (intOf o).toNat)
 case atStart => exact ⟨i + 1, Nat.le_refl _, by omega, by go_num, by rw [Nat.sub_self]; exact Own.nil _ _ _, Below.refl _ _⟩
 case round =>
  obtain ⟨k, hk1, hk2, rfl, hown⟩ := hrel
  have b0 : (0 : Int) <= (k : Int) := Int.natCast_nonneg _
  have b1 : (k : Int) < (s.size : Int) := by omega
  have b2 : k < s.size := by omega
  by_cases hkj : k = j
  ·subst hkj
   have hc := HJ.out
   rw [get_bang s k b2] at hc
   have e1 : (((s[k].toNat : Nat) : Int) == 34) = true := by simp; omega
   have hst := str_of_own hown.out.1
   clear hc
   go_wp2_with fail
   go_ret3
   exact ⟨rfl, hown.out.2⟩
  ·have hok := okCh_iff (HM.out k (by omega) (by omega))
   rw [get_bang s k b2] at hok
   have e1 : (((s[k].toNat : Nat) : Int) == 34) = false := by simp; omega
   have e2 : decide (((s[k].toNat : Nat) : Int) < 32) = false := by simp; omega
   have e3 : (((s[k].toNat : Nat) : Int) == 92) = false := by simp; omega
   have h1 := one_ascii b2 (by rw [get_bang s k b2]; omega)
   have HON := Lib.hid (one_any s k wr (by unfold maxLen; omega) b2)
   rw [h1] at HON
   clear hok h1
   go_wp2_with fail
   refine HON.out.mono ?_
   rintro e w2 ⟨rfl, rfl⟩
   have HL : Hid (((s.data.toList.drop (i + 1)).take (k - (i + 1))).length + (s.extract k (k + 1)).size <= 140737488355328) := by
    unfold Hid
    rw [List.length_take, <- str_len (s.extract k (k + 1)), ext_one b2, List.length_singleton]
    have h1 : (s.data.toList.drop (i + 1)).length <= s.size := by rw [List.length_drop, str_len]; omega
    omega
   go_wp2_with (at_builtin; refine wpList_append_str _ rfl _ _ rfl rfl rfl hown.out.1 HL.out hown.out.2.size ?_; intro v3 w3 ho3 hg3)
   rw [ext_one b2, <- cut_step (by omega) b2] at ho3
   go_roundw
   case rel => exact ⟨k + 1, by omega, by omega, by go_num, ho3, Below.appended hown.out.2 hg3 hown.out.1 hown.out.2.size⟩
   case measure => simp [intOf]; omega
end
section
open Go Go.Shelf
def lays137_ren : Go.Shelf.Ren := ⟨fun | 137 => 66 | 217 => 83 | 266 => 96 | n => n, fun | 9 => 9 | 5 => 5 | 3 => 3 | n => n, fun | n => n⟩
theorem lays137 : Go.Proofs.Lays.n137 Tryz.prog lays137_ren := {
 mixed := by kernel_rfl
 f137 := Tryz.func66.trans (congrArg some (by kernel_rfl))
 f217 := Tryz.func83.trans (congrArg some (by kernel_rfl))
 f266 := Tryz.func96.trans (congrArg some (by kernel_rfl))
 t3 := Tryz.underlying3
 a3 := Tryz.isAgg3
 z3 := Tryz.sizeOf3
 v3 := Tryz.zeroValue3
 t5 := Tryz.underlying5
 a5 := Tryz.isAgg5
 z5 := Tryz.sizeOf5
 v5 := Tryz.zeroValue5
 t9 := Tryz.underlying9
 a9 := Tryz.isAgg9
 z9 := Tryz.sizeOf9
 v9 := Tryz.zeroValue9 }
open Go.RowKit in
theorem strings_IndexByte (s : ByteArray) (c : Int) (w : World) :
 Calls Tryz.prog 66 #[.string s, .int .u8 c] w fun e w' => e = .returned (.int .i64 (Lib.indexByte s.data.toList c.toNat.toUInt8)) /\ w' = w := Any.strings_IndexByte lays137 s c w
def lays99_ren : Go.Shelf.Ren := ⟨fun | 99 => 100 | 206 => 121 | n => n, fun | 9 => 9 | 4 => 4 | 3 => 3 | n => n, fun | n => n⟩
theorem lays99 : Go.Proofs.Lays.n99 Tryz.prog lays99_ren := {
 mixed := by kernel_rfl
 f99 := Tryz.func100.trans (congrArg some (by kernel_rfl))
 f206 := Tryz.func121.trans (congrArg some (by kernel_rfl))
 t3 := Tryz.underlying3
 a3 := Tryz.isAgg3
 z3 := Tryz.sizeOf3
 v3 := Tryz.zeroValue3
 t4 := Tryz.underlying4
 a4 := Tryz.isAgg4
 z4 := Tryz.sizeOf4
 v4 := Tryz.zeroValue4
 t9 := Tryz.underlying9
 a9 := Tryz.isAgg9
 z9 := Tryz.sizeOf9
 v9 := Tryz.zeroValue9 }
open Go.RowKit Go.Lib in
theorem strings_HasPrefix (s p : ByteArray) (w : World) :
 Calls Tryz.prog 100 #[.string s, .string p] w fun e w' => e = .returned (.bool (Lib.hasPrefix s.data.toList p.data.toList)) /\ w' = w := Any.strings_HasPrefix lays99 s p w
end
section
open Go Go.RowKit Go.OpenShut
theorem infoTok : (Tryz.prog.info? 97).map (fun i => (i.zero, i.size, i.bytes)) = some (some (.agg #[.int .i64 0, .int .i64 0, .string ByteArray.empty, .int .i64 0]), 4, 40) := by kernel_rfl
theorem slTok : SlT Tryz.prog 86 97 4 40 := SlT.mk Tryz.underlying86 infoTok rfl
def ScAt (W : World) (g : Nat) (s : ByteArray) (i : Nat) (v : Value) : Prop := W.heap[g]? = some (.cells #[.string s, .int .i64 i, v] 117 (0, 0))
theorem ScAt.lt {W : World} {g i : Nat} {s : ByteArray} {v : Value} (h : ScAt W g s i v) : g < W.heap.size := (Array.getElem?_eq_some_iff.1 h).1
theorem ScAt.cell {W : World} {g i : Nat} {s : ByteArray} {v : Value} (h : ScAt W g s i v) (j : Nat) {u : Value} (hu : [Value.string s, .int .i64 i, v][j]? = some u) : W.cell? ⟨g, j, none⟩ = some u := by
 unfold ScAt at h
 rw [cell_of_row W g j _ _ _ h, <- Array.getElem?_toList]
 exact hu
theorem ScAt.frozen {W : World} {g i : Nat} {s : ByteArray} {v : Value} (h : ScAt W g s i v) (j : Nat) : W.frozen? ⟨g, j, none⟩ = false := by
 unfold ScAt at h
 simp [World.frozen?, h]
theorem ScAt.under {W W' : World} {g i B : Nat} {s : ByteArray} {v : Value} (h : ScAt W g s i v) (hb : Below B W W') (hg : g < B) : ScAt W' g s i v := (hb.block g hg).trans h
theorem ScAt.keptR {W W' : World} {g i : Nat} {s : ByteArray} {v : Value} {row : Option Nat} (h : ScAt W g s i v) (hg : W.grownBy W' row) (hne : row ≠ some g) : ScAt W' g s i v := (hg.block g h.lt (fun e => hne e.symm)).trans h
theorem ScAt.set1 {W : World} {g i : Nat} {s : ByteArray} {v : Value} (h : ScAt W g s i v) (k : Nat) : ScAt (W.setCell ⟨g, 1, none⟩ (.int .i64 k)) g s k v := by
 unfold ScAt at h ⊢
 simp [World.setCell, Array.getElem?_modify, h]
theorem ScAt.set2 {W : World} {g i : Nat} {s : ByteArray} {v : Value} (h : ScAt W g s i v) (u : Value) : ScAt (W.setCell ⟨g, 2, none⟩ u) g s i u := by
 unfold ScAt at h ⊢
 simp [World.setCell, Array.getElem?_modify, h]
structure ScS (w W : World) (g : Nat) (s : ByteArray) (i : Nat) (l : List Tok) : Prop where
 ex : ∃ v, ScAt W g s i v /\ Own W (g + 1) 97 encTok 4 v l
 below : Below g w W
theorem lay_any (w : World) (g i k n a : Nat) (s x : ByteArray) (kd : Int) (l : List Tok) (hS : ScS w w g s i l) (hl : l.length <= 65536) :
 Calls Tryz.prog 85 #[.pointer (some ⟨g, 0, none⟩), .agg #[.int .i64 kd, .int .i64 n, .string x, .int .i64 a], .int .i64 k] w fun e w' => e = .returned (.tuple #[]) /\ ScS w w' g s k (l ++ [⟨kd, n, x, i⟩]) := by
 obtain ⟨⟨v, h1, h2⟩, h3⟩ := hS
 obtain ⟨p0, n0, c0', rfl⟩ : ∃ p n c, v = Value.slice p n c := (by obtain ⟨p, c, hv, _, _⟩ := h2.len; exact ⟨p, _, c, hv⟩)
 have hg := h1.lt
 have hA : Below w.heap.size w (w.alloc (.cells #[.int .i64 kd, .int .i64 n, .string x, .int .i64 a] 97)) := (Below.refl _ _).alloc (Nat.le_refl _) _
 have hB : (w.alloc (.cells #[.int .i64 kd, .int .i64 n, .string x, .int .i64 a] 97)).heap[w.heap.size]? = some (.cells #[.int .i64 kd, .int .i64 n, .string x, .int .i64 a] 97 (0, 0)) := heap_alloc_at rfl
 have hs1 : (w.alloc (.cells #[.int .i64 kd, .int .i64 n, .string x, .int .i64 a] 97)).heap.size = w.heap.size + 1 := by simp
 obtain ⟨W1, hW1⟩ : ∃ W1, w.alloc (.cells #[.int .i64 kd, .int .i64 n, .string x, .int .i64 a] 97) = W1 := ⟨_, rfl⟩
 rw [hW1] at hA hB hs1
 have HLT : Hid (∀ k, (Value.slice p0 n0 c0').ownBlock = some k -> g + 1 <= k /\ k < w.heap.size) := h2.lt
 have HC1 := Lib.hid (h1.under hA hg)
 have HO1 := Lib.hid (h2.below hA (Nat.le_refl _))
 have H3 := Lib.hid (h3.trans (hA.mono (Nat.le_of_lt hg)))
 have HS1 := Lib.hid hs1
 have HL : Hid (l.length <= 65536) := hl
 clear h1 h2 h3 hA hs1 hl
 go_enter Tryz.func85, Tryz.ntmps85
 go_upto_region 1 with fail
 try rw [hW1]
 clear hW1
 have c1 := HC1.out.cell 1 (u := .int .i64 i) rfl
 have t3 : W1.cell? ⟨w.heap.size, 3, none⟩ = some (.int .i64 a) := by rw [cell_of_row W1 w.heap.size 3 _ _ _ hB]; rfl
 have t4 : W1.frozen? ⟨w.heap.size, 3, none⟩ = false := by simp [World.frozen?, hB]
 have hgw : g ≠ w.heap.size := by omega
 have hgw1 : w.heap.size < W1.heap.size := by have := HS1.out; omega
 go_upto_region 2 with fail
 have hg2 := grownBy_set W1 w.heap.size 3 (.int .i64 (i : Int))
 have hB2 : (W1.setCell ⟨w.heap.size, 3, none⟩ (.int .i64 (i : Int))).heap[w.heap.size]? = some (.cells #[.int .i64 kd, .int .i64 n, .string x, .int .i64 i] 97 (0, 0)) := by simp [World.setCell, Array.getElem?_modify, hB]
 have hC2 := HC1.out.keptR hg2 (fun e => hgw (by injection e with e; exact e.symm))
 have hO2 : Own (W1.setCell ⟨w.heap.size, 3, none⟩ (.int .i64 (i : Int))) (g + 1) 97 encTok 4 (.slice p0 n0 c0') l := HO1.out.same (fun k e => hg2.block k (HO1.out.lt k e).2 (fun e2 => by have := HLT.out k e; injection e2 with e2; omega))
 have hb2 : Below g w (W1.setCell ⟨w.heap.size, 3, none⟩ (.int .i64 (i : Int))) := H3.out.grown hg2 (by omega) (fun k e => by injection e with e; omega)
 obtain ⟨W2, hW2⟩ : ∃ W2, W1.setCell ⟨w.heap.size, 3, none⟩ (.int .i64 (i : Int)) = W2 := ⟨_, rfl⟩
 rw [hW2] at hB2 hC2 hO2 hb2
 try rw [hW2]
 have hz2 : g < W2.heap.size := hC2.lt
 have hw2 : w.heap.size < W2.heap.size := by rw [<- hW2]; simpa using hgw1
 clear hW2 c1 t3 t4 hg2
 have t0 : W2.cell? ⟨w.heap.size, 0, none⟩ = some (.int .i64 kd) := by rw [cell_of_row W2 w.heap.size 0 _ _ _ hB2]; rfl
 have t1 : W2.cell? ⟨w.heap.size, 1, none⟩ = some (.int .i64 n) := by rw [cell_of_row W2 w.heap.size 1 _ _ _ hB2]; rfl
 have t2 : W2.cell? ⟨w.heap.size, 2, none⟩ = some (.string x) := by rw [cell_of_row W2 w.heap.size 2 _ _ _ hB2]; rfl
 have t3 : W2.cell? ⟨w.heap.size, 3, none⟩ = some (.int .i64 i) := by rw [cell_of_row W2 w.heap.size 3 _ _ _ hB2]; rfl
 have c2 := hC2.cell 2 (u := .slice p0 n0 c0') rfl
 have HOX : Hid (Own (W2.alloc (.cells #[.int .i64 kd, .int .i64 n, .string x, .int .i64 i] 97)) (g + 1) 97 encTok 4 (.slice p0 n0 c0') l) := hO2.below ((Below.refl _ _).alloc (Nat.le_refl _) _) (Nat.le_refl _)
 have HRX : Hid (Rd (W2.alloc (.cells #[.int .i64 kd, .int .i64 n, .string x, .int .i64 i] 97)) (W2.heap.size + 1) encTok 4 (.slice (some ⟨W2.heap.size, 0, none⟩) 1 1) [(⟨kd, n, x, i⟩ : Tok)]) := Rd.one codecTok (heap_alloc_at rfl) rfl (by omega)
 have HCX : Hid (ScAt (W2.alloc (.cells #[.int .i64 kd, .int .i64 n, .string x, .int .i64 i] 97)) g s i (.slice p0 n0 c0')) := hC2.under ((Below.refl _ _).alloc (Nat.le_refl _) _) hz2
 have HBX : Hid (Below g w (W2.alloc (.cells #[.int .i64 kd, .int .i64 n, .string x, .int .i64 i] 97))) := hb2.alloc (by omega) _
 have HW2 : Hid (w.heap.size < W2.heap.size /\ g < w.heap.size) := ⟨hw2, hg⟩
 clear hC2 hO2 hb2 hB2
 go_region_law
  (first
   | (refine step_append_rd slTok codecTok (W2.alloc (.cells #[.int .i64 kd, .int .i64 n, .string x, .int .i64 i] 97)).drew (by rfl) (.tmp 15) (.tmp 17) (by rfl) (v := .slice p0 n0 c0') (by rfl) (by rfl) HOX.out HRX.out (by have := HL.out; simp only [List.length_singleton]; unfold maxLen; omega) (by have := HL.out; simp only [List.length_singleton]; omega) (by have := HW2.out; show g + 1 <= (W2.alloc _).heap.size; simp; omega) ?_
      intro v9 w9 ho9 hg9 hat9
      obtain ⟨p9, n9, c9, rfl⟩ : ∃ p n c, v9 = Value.slice p n c := (by obtain ⟨p, c, hv, h1, h2⟩ := ho9.len; exact ⟨p, _, c, hv⟩)
      have H9 : ScAt w9 g s i (.slice p0 n0 c0') := (hg9.block g (by have := HCX.out.lt; exact this) (fun e => by have := (HOX.out.lt _ e.symm).1; omega)).trans HCX.out
      have b2 := H9.cell 2 (u := .slice p0 n0 c0') rfl
      have bf := H9.frozen 2
      have b1 := H9.cell 1 (u := .int .i64 i) rfl
      have bf1 := H9.frozen 1)
   | fail)
 all_goals
  have HB9 : Below g w w9 := (show Below g w (W2.alloc (.cells #[.int .i64 kd, .int .i64 n, .string x, .int .i64 i] 97)).drew from HBX.out.drew).grown hg9 (by have := HW2.out; show g <= (W2.alloc _).heap.size; simp; omega) (fun k e => by have := (HOX.out.lt k e).1; omega)
  have HN9 := H9.set2 (.slice p9 n9 c9)
  have HN10 := HN9.set1 k
  have hg10 := (grownBy_set w9 g 2 (.slice p9 n9 c9)).trans (grownBy_set _ g 1 (.int .i64 (k : Int)))
  have ho10 := ho9.same (w' := (w9.setCell ⟨g, 2, none⟩ (.slice p9 n9 c9)).setCell ⟨g, 1, none⟩ (.int .i64 (k : Int))) (fun j e => hg10.block j (ho9.lt j e).2 (fun e2 => by have := (ho9.lt j e).1; injection e2 with e2; omega))
  have hb10 := HB9.grown hg10 (by have := H9.lt; omega) (fun j e => by injection e with e; omega)
  go_wp2_with fail
  go_end0
  exact ⟨rfl, ⟨⟨_, HN10, ho10⟩, hb10⟩⟩
theorem index_ge : ∀ (l : List UInt8) (c : UInt8), decide (0 <= Lib.indexByte l c) = l.any (fun b => decide (b = c))
 | [], c => by simp [Lib.indexByte]
 | b :: l, c => by
   have ih := index_ge l c
   unfold Lib.indexByte
   rw [List.any_cons]
   by_cases h : b = c
   ·simp [h]
   ·have h2 : (b == c) = false := by simpa using h
    rw [h2, if_neg (by decide), decide_eq_false h, Bool.false_or, <- ih]
    by_cases h3 : Lib.indexByte l c = -1
    ·simp [h3]
    ·have h4 : (Lib.indexByte l c == -1) = false := by simpa using h3
     rw [h4, if_neg (by decide)]
     have h5 : -1 <= Lib.indexByte l c := index_min l c
     by_cases h6 : 0 <= Lib.indexByte l c
     ·rw [decide_eq_true h6, decide_eq_true (by omega)]
     ·omega
where index_min : ∀ (l : List UInt8) (c : UInt8), -1 <= Lib.indexByte l c
 | [], c => by simp [Lib.indexByte]
 | b :: l, c => by
   have ih := index_min l c
   unfold Lib.indexByte
   split
   ·omega
   ·split
    ·omega
    ·omega
theorem u8_eq (b c : UInt8) : (b = c) = (c.toNat = b.toNat) := by
 apply propext
 constructor
 ·intro h; rw [h]
 ·intro h; exact (UInt8.toNat_inj.1 h).symm
theorem sp_index (c : UInt8) : decide (0 <= Lib.indexByte [32, 9, 10, 13] c) = spCh c := by
 rw [index_ge]
 simp only [List.any_cons, List.any_nil, Bool.or_false, u8_eq, spCh]
 simp only [Bool.or_assoc]
 rfl
theorem mk_index (c : UInt8) : decide (0 <= Lib.indexByte [123, 125, 91, 93, 58, 44] c) = mkCh c := by
 rw [index_ge]
 simp only [List.any_cons, List.any_nil, Bool.or_false, u8_eq, mkCh]
 simp only [Bool.or_assoc]
 rfl
end
end Go.Proofs.YtjhginendpjimaaGreatDoor
