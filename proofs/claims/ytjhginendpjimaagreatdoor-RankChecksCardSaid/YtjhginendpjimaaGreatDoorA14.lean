import Derived.Test.YtjhginendpjimaaGreatDoorA13
import Derived.Laws.IdiomStrings
import Derived.Test.YtjhginendpjimaaGreatDoorProg
import Derived.Test.YtjhginendpjimaaGreatDoorA00
import Derived.WalkSpells
import Derived.Laws.AppendOwnNone
import Derived.Lib.Hide
import Derived.WalkKit
import Derived.WalkLawsBesides
import Derived.BigQuiet
import Derived.Deep.QuietTactic
set_option linter.unusedSimpArgs false
set_option linter.unusedVariables false
set_option maxRecDepth 200000
set_option maxHeartbeats 8000000
namespace Go.Proofs.YtjhginendpjimaaGreatDoor
section
open Go Go.RowKit Go.OpenShut
theorem small_any (c : UInt8) (w : World) : Calls Tryz.prog 103 #[.int .u8 c.toNat] w fun e w' => e = .returned (.int .u8 (foldC c).toNat) /\ w = w' := by
 have hc := c.toNat_lt
 have hF : (foldC c).toNat = if 65 <= c.toNat /\ c.toNat <= 90 then c.toNat + 32 else c.toNat := by
  unfold foldC
  have h1 : (65 <= c /\ c <= 90) ↔ (65 <= c.toNat /\ c.toNat <= 90) := by rw [UInt8.le_iff_toNat_le, UInt8.le_iff_toNat_le]; rfl
  by_cases h : 65 <= c.toNat /\ c.toNat <= 90
  ·rw [if_pos (h1.2 h), if_pos h, UInt8.toNat_add]
   show (c.toNat + 32) % 256 = _
   omega
  ·rw [if_neg (fun e => h (h1.1 e)), if_neg h]
 obtain ⟨n, hn⟩ : ∃ n, c.toNat = n := ⟨_, rfl⟩
 obtain ⟨R, hR⟩ : ∃ n, (foldC c).toNat = n := ⟨_, rfl⟩
 rw [hn] at hF hc
 rw [hn, hR]
 rw [hR] at hF
 have HF := Lib.hid hF
 clear hF hR hn
 have hc' : (n : Int) < 256 := by omega
 have n0 : (0 : Int) <= (n : Int) := Int.natCast_nonneg _
 by_cases h1 : 65 <= n
 ·have q1 : decide ((65 : Int) <= (n : Int)) = true := decide_eq_true (by omega)
  by_cases h2 : n <= 90
  ·have q2 : decide ((n : Int) <= 90) = true := decide_eq_true (by omega)
   have HR : Hid (R = n + 32) := by unfold Hid; rw [HF.out, if_pos ⟨h1, h2⟩]
   have h2' : (n : Int) <= 90 := by omega
   go_enter Tryz.func103, Tryz.ntmps103
   go_wp2_with fail
   rw [HR.out]
   go_ret
   exact ⟨by simp, rfl⟩
  ·have q2 : decide ((n : Int) <= 90) = false := decide_eq_false (by omega)
   have HR : Hid (R = n) := by unfold Hid; rw [HF.out, if_neg (fun e => h2 e.2)]
   go_enter Tryz.func103, Tryz.ntmps103
   go_wp2_with fail
   rw [HR.out]
   go_ret
   exact ⟨rfl, rfl⟩
 ·have q1 : decide ((65 : Int) <= (n : Int)) = false := decide_eq_false (by omega)
  have HR : Hid (R = n) := by unfold Hid; rw [HF.out, if_neg (fun e => h1 e.1)]
  go_enter Tryz.func103, Tryz.ntmps103
  go_wp2_with fail
  rw [HR.out]
  go_ret
  exact ⟨rfl, rfl⟩
def encBt (l : List UInt8) : List Value := l.map (fun b => Value.int .u8 b.toNat)
def BtAt (W : World) (g : Nat) (l : List UInt8) : Prop := ∃ cs : Array Value, W.heap[g]? = some (.cells cs 5 (cs.size, cs.size + 1)) /\ cs.toList.take l.length = encBt l /\ l.length <= cs.size
theorem BtAt.lt {W : World} {g : Nat} {l : List UInt8} (h : BtAt W g l) : g < W.heap.size := by
 obtain ⟨cs, h1, _⟩ := h
 exact (Array.getElem?_eq_some_iff.1 h1).1
theorem BtAt.cell {W : World} {g : Nat} {l : List UInt8} (h : BtAt W g l) {j : Nat} (hj : j < l.length) : W.cell? ⟨g, j, none⟩ = some (.int .u8 (l[j].toNat : Int)) := by
 obtain ⟨cs, h1, h2, h3⟩ := h
 rw [cell_of_row W g j _ _ _ h1]
 have h4 := congrArg (fun x => x[j]?) h2
 simp only [List.getElem?_take, if_pos hj] at h4
 rw [<- Array.getElem?_toList, h4]
 unfold encBt
 rw [List.getElem?_map, List.getElem?_eq_getElem hj]
 rfl
theorem BtAt.frozen {W : World} {g : Nat} {l : List UInt8} (h : BtAt W g l) {j : Nat} (hj : j < l.length) : W.frozen? ⟨g, j, none⟩ = false := by
 obtain ⟨cs, h1, h2, h3⟩ := h
 simp [World.frozen?, h1]
 omega
theorem BtAt.set {W : World} {g : Nat} {l : List UInt8} (h : BtAt W g l) {j : Nat} (hj : j < l.length) (c : UInt8) : BtAt (W.setCell ⟨g, j, none⟩ (.int .u8 c.toNat)) g (l.set j c) := by
 obtain ⟨cs, h1, h2, h3⟩ := h
 refine ⟨cs.setIfInBounds j (.int .u8 c.toNat), ?_, ?_, by simpa using h3⟩
 ·simp [World.setCell, Array.getElem?_modify, h1]
  try omega
 ·rw [List.length_set, Array.toList_setIfInBounds, List.take_set, h2]
  unfold encBt
  rw [List.map_set]
theorem BtAt.fresh (w : World) (s : ByteArray) (n : Nat) : BtAt (w.alloc (.cells (bytesRow s n) 5 ((bytesRow s n).size, (bytesRow s n).size + 1))) w.heap.size s.data.toList := by
 refine ⟨bytesRow s n, heap_alloc_at rfl, ?_, ?_⟩
 ·unfold bytesRow encBt
  rw [Array.toList_append, Array.toList_map, List.take_left' (by simp)]
 ·unfold bytesRow
  simp
theorem BtAt.back {W : World} {g : Nat} {l : List UInt8} (h : BtAt W g l) {n : Nat} (hn : n = l.length) (c : Nat) : (convert 130 9 (.slice (some ⟨g, 0, none⟩) n c)).run Tryz.prog W = .ok (.string (toB l)) W := by
 subst hn
 refine run_convert_bytes_back W _ _ _ _ c l Tryz.underlying130 Tryz.underlying5 Tryz.underlying9 (fun j hj => ?_)
 have e : (⟨g, 0, none⟩ : Addr).add j = ⟨g, j, none⟩ := by simp [Addr.add]; try (intro h; exact h.symm)
 rw [e]
 exact h.cell hj
def foldN (l : List UInt8) (k : Nat) : List UInt8 := foldL (l.take k) ++ l.drop k
theorem foldN_len (l : List UInt8) (k : Nat) : (foldN l k).length = l.length := by unfold foldN foldL; rw [List.length_append, List.length_map, List.length_take, List.length_drop]; omega
theorem foldN_get {l : List UInt8} {k : Nat} (h : k < l.length) : (foldN l k)[k]? = some l[k] := by
 unfold foldN foldL
 rw [List.getElem?_append_right (by rw [List.length_map, List.length_take]; omega), List.length_map, List.length_take, show k - min k l.length = 0 by omega, List.getElem?_drop]
 simp [List.getElem?_eq_getElem h]
theorem foldN_succ {l : List UInt8} {k : Nat} (h : k < l.length) : foldN l (k + 1) = (foldN l k).set k (foldC l[k]) := by
 unfold foldN foldL
 have hlen : (List.map foldC (l.take k)).length = k := by rw [List.length_map, List.length_take]; omega
 rw [List.set_append_right _ _ (by omega), hlen, Nat.sub_self, List.take_succ_eq_append_getElem h, List.map_append, List.append_assoc, List.drop_eq_getElem_cons h]
 rfl
theorem foldN_all (l : List UInt8) : foldN l l.length = foldL l := by unfold foldN; rw [List.take_length, List.drop_length, List.append_nil]
theorem fold_any (s : ByteArray) (w : World) (hs : s.size <= maxLen) : Calls Tryz.prog 91 #[.string s] w fun e w' => e = .returned (.string (toB (foldL s.data.toList))) /\ Below w.heap.size w w' := by
 have hsz : s.data.toList.length = s.size := by rw [Array.length_toList]; rfl
 unfold maxLen at hs
 have hconv := run_bytes_of_string (P := Tryz.prog) w 9 130 5 s Tryz.underlying9 Tryz.underlying130 Tryz.underlying5
 have hF := BtAt.fresh w s (grownCap w s.size 0 5)
 have hB : Below w.heap.size w (w.alloc (.cells (bytesRow s (grownCap w s.size 0 5)) 5 ((bytesRow s (grownCap w s.size 0 5)).size, (bytesRow s (grownCap w s.size 0 5)).size + 1))) := (Below.refl _ _).alloc (Nat.le_refl _) _
 obtain ⟨K, hK⟩ : ∃ K, grownCap w s.size 0 5 = K := ⟨_, rfl⟩
 rw [hK] at hconv hF hB
 obtain ⟨C, hC⟩ : ∃ C, bytesRow s K = C := ⟨_, rfl⟩
 rw [hC] at hconv hF hB
 have HF := Lib.hid hF
 have HB := Lib.hid hB
 have HSZ := Lib.hid hsz
 have s0 : (0 : Int) <= (s.size : Int) := Int.natCast_nonneg _
 clear hF hB hK hC hsz
 go_enter Tryz.func91, Tryz.ntmps91
 go_upto_region 2 with fail
 obtain ⟨W1, hW1⟩ : ∃ W1, (w.alloc (.cells C 5 (C.size, C.size + 1))) = W1 := ⟨_, rfl⟩
 rw [hW1] at HF HB
 try rw [hW1]
 clear hconv
 go_wp2_with fail
 have HF1 : Hid (BtAt W1.drew w.heap.size s.data.toList) := HF.out
 have HB1 : Hid (Below w.heap.size w W1.drew) := HB.out.drew
 clear HF HB
 have hw1 : w.heap.size < W1.drew.heap.size := HF1.out.lt
 obtain ⟨W2, hW2⟩ : ∃ W2, W1.drew = W2 := ⟨_, rfl⟩
 rw [hW2] at HF1 HB1 hw1
 rw [hW2]
 clear hW2 hW1 W1 hw1
 go_loopw [10] (fun i wr => ∃ k : Nat, k <= s.size /\ i = .int .i64 (k : Int) /\ Hid (BtAt wr w.heap.size (foldN s.data.toList k)) /\ Hid (Below w.heap.size w wr)) (fun i _ => s.size - (intOf i).toNat)
 case atStart =>
  refine ⟨0, by omega, rfl, ?_, HB1.out⟩
  have e : foldN s.data.toList 0 = s.data.toList := by unfold foldN foldL; simp
  rw [e]
  exact HF1.out
 case round =>
  obtain ⟨k, hk, rfl, hbt, hbl⟩ := hrel
  have hk0 : (0 : Int) <= (k : Int) := Int.natCast_nonneg _
  by_cases hlt : k < s.size
  ·have hks : (k : Int) < (s.size : Int) := by omega
   have q1 : decide ((k : Int) < (s.size : Int)) = true := decide_eq_true hks
   have hlt' : k < s.data.toList.length := by rw [HSZ.out]; exact hlt
   have hj : k < (foldN s.data.toList k).length := by rw [foldN_len]; exact hlt'
   have hcl := hbt.out.cell hj
   have hgx : (foldN s.data.toList k)[k] = s.data.toList[k] := by
    have h1 := foldN_get hlt'
    rw [List.getElem?_eq_getElem hj] at h1
    exact Option.some.inj h1
   have hst := hbt.out.set hj (foldC s.data.toList[k])
   rw [<- foldN_succ hlt'] at hst
   rw [hgx] at hcl
   have hfz := hbt.out.frozen hj
   have hwl := hbt.out.lt
   obtain ⟨c, hc⟩ : ∃ c, s.data.toList[k] = c := ⟨_, rfl⟩
   rw [hc] at hcl hst
   have HST := Lib.hid hst
   have HSM : Hid (∀ W, Calls Tryz.prog 103 #[.int .u8 c.toNat] W fun e w' => e = .returned (.int .u8 (foldC c).toNat) /\ W = w') := fun W => small_any c W
   have hsb := (foldC c).toNat_lt
   obtain ⟨d, hd⟩ : ∃ d, (foldC c).toNat = d := ⟨_, rfl⟩
   rw [hd] at HST HSM hsb
   have hd256 : (d : Int) < 256 := by omega
   have hd0 : (0 : Int) <= (d : Int) := Int.natCast_nonneg _
   clear hst hc hgx hj hlt' hd hsb
   go_wp2_with (first | (go_at_call 103; refine (HSM.out _).mono ?_; rintro e w1 ⟨rfl, rfl⟩) | fail)
   go_roundw
   case rel =>
    refine ⟨k + 1, by omega, by go_num, HST.out, hbl.out.setCell (p := ⟨w.heap.size, k, none⟩) (Nat.le_refl _) _⟩
   case measure => simp [intOf]; omega
  ·obtain rfl : k = s.size := by omega
   have q1 : decide ((s.size : Int) < (s.size : Int)) = false := decide_eq_false (by omega)
   have e : foldN s.data.toList s.size = foldL s.data.toList := by rw [<- HSZ.out]; exact foldN_all _
   rw [e] at hbt
   have hback := hbt.out.back (n := s.size) (by unfold foldL; rw [List.length_map, HSZ.out]) K
   go_wp2_with fail
   go_ret
   exact ⟨rfl, hbl.out⟩
theorem fcomp_any (s t : ByteArray) (w : World) (hs : s.size <= maxLen) (ht : t.size <= maxLen) : Calls Tryz.prog 72 #[.string s, .string t] w fun e w' => e = .returned (.int .i64 (Go.Lib.compareBytes (foldL s.data.toList) (foldL t.data.toList))) /\ Below w.heap.size w w' := by
 have HA : Hid (∀ W, Calls Tryz.prog 91 #[.string s] W fun e w' => e = .returned (.string (toB (foldL s.data.toList))) /\ Below W.heap.size W w') := fun W => fold_any s W hs
 have HB : Hid (∀ W, Calls Tryz.prog 91 #[.string t] W fun e w' => e = .returned (.string (toB (foldL t.data.toList))) /\ Below W.heap.size W w') := fun W => fold_any t W ht
 have HC : Hid (∀ W, Calls Tryz.prog 90 #[.string (toB (foldL s.data.toList)), .string (toB (foldL t.data.toList))] W fun e w' => e = .returned (.int .i64 (Go.Lib.compareBytes (foldL s.data.toList) (foldL t.data.toList))) /\ W = w') := fun W => comp_any _ _ W
 obtain ⟨X, hX⟩ : ∃ X, toB (foldL s.data.toList) = X := ⟨_, rfl⟩
 obtain ⟨Y, hY⟩ : ∃ X, toB (foldL t.data.toList) = X := ⟨_, rfl⟩
 obtain ⟨R, hR⟩ : ∃ X, Go.Lib.compareBytes (foldL s.data.toList) (foldL t.data.toList) = X := ⟨_, rfl⟩
 rw [hX] at HA HC
 rw [hY] at HB HC
 rw [hR] at HC
 rw [hR]
 clear hX hY hR hs ht
 go_enter Tryz.func72, Tryz.ntmps72
 go_wp2_with (first | (go_at_call 91; with_reducible refine (HA.out _).mono ?_; rintro e w1 ⟨rfl, hb1⟩) | (go_at_call 91; with_reducible refine (HB.out _).mono ?_; rintro e w2 ⟨rfl, hb2⟩) | (go_at_call 90; refine (HC.out _).mono ?_; rintro e w3 ⟨rfl, rfl⟩) | fail)
 go_ret
 exact ⟨rfl, hb1.trans (hb2.mono hb1.size)⟩
end
section
open Go.RowKit
def OwnRet {α : Type} (w : World) (t : TypeId) (enc : α -> List Value) (sz : Nat) (xs : List α) (e : Ending) (w' : World) : Prop :=
 ∃ u, e = .returned u /\ Own w' w.heap.size t enc sz u xs /\ Below w.heap.size w w'
theorem ret_bool {a b : Bool} (h : a = b) : Ending.returned (.bool a) = .returned (.bool b) := by rw [h]
structure En where
 seq : Int
 id : ByteArray
 what : Int
deriving DecidableEq
def En.ok (e : En) : Prop := (Lit.int .i64 e.seq).wf = true /\ e.id.size <= maxLen /\ (Lit.int .i64 e.what).wf = true
def enAt (w : World) (b o : Nat) (e : Option En) : Prop := ∃ x, e = some x /\ w.cell? ⟨b, o, none⟩ = some (.int .i64 x.seq) /\ w.cell? ⟨b, o + 1, none⟩ = some (.string x.id) /\ w.cell? ⟨b, o + 2, none⟩ = some (.int .i64 x.what)
def RdE (w : World) (B : Nat) (v : Value) (es : List En) : Prop :=
 (∀ e ∈ es, e.ok) /\ ∃ (p : Option Addr) (cap : Nat), v = .slice p es.length cap /\ es.length <= cap /\ cap <= maxLen /\ (p = none -> cap = 0) /\
  ∀ a, p = some a -> 0 < es.length -> ∃ b o, a = ⟨b, o, none⟩ /\ b < B /\ ∀ i, i < es.length -> enAt w b (o + i * 3) es[i]?
end
end Go.Proofs.YtjhginendpjimaaGreatDoor
