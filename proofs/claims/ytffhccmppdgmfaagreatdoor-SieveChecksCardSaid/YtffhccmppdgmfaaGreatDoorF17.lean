import Derived.Test.YtffhccmppdgmfaaGreatDoorF15
import Derived.Test.YtffhccmppdgmfaaGreatDoorF10
import Derived.Deep.RegionHeld3
import Derived.StillTailTactics
import Derived.Deep.LoopGhost
import Derived.Defers
import Derived.Recover
set_option linter.unusedSimpArgs false
set_option linter.unusedVariables false
set_option maxRecDepth 200000
set_option maxHeartbeats 8000000
namespace Go.Proofs.YtffhccmppdgmfaaGreatDoor
section
open Go Go.RowKit Go.OpenShut
theorem indexByte_u8 (l : List UInt8) (c : UInt8) : Lib.indexByte l ((c.toNat : Int)).toNat.toUInt8 = Lib.indexByte l c := by
 rw [Int.toNat_natCast]
 congr 1
 simp
theorem ScS.cells {w W : World} {g i : Nat} {s : ByteArray} {l : List Tok} (h : ScS w W g s i l) : W.cell? ⟨g, 0, none⟩ = some (.string s) /\ W.cell? ⟨g, 1, none⟩ = some (.int .i64 i) /\ g < W.heap.size := by
 obtain ⟨v, h1, h2⟩ := h.ex
 exact ⟨h1.cell 0 rfl, h1.cell 1 rfl, h1.lt⟩
theorem ScS.call {w W W' : World} {g i : Nat} {s : ByteArray} {l : List Tok} (h : ScS w W g s i l) (hb : Below W.heap.size W W') : ScS w W' g s i l := by
 obtain ⟨⟨v, h1, h2⟩, h3⟩ := h
 exact ⟨⟨v, h1.under hb h1.lt, h2.below hb (Nat.le_refl _)⟩, h3.trans (hb.mono (Nat.le_of_lt h1.lt))⟩
theorem ScS.self {w W : World} {g i : Nat} {s : ByteArray} {l : List Tok} (h : ScS w W g s i l) : ScS W W g s i l := ⟨h.ex, Below.refl _ _⟩
theorem one_mark (w : World) (g i : Nat) (s : ByteArray) (l : List Tok) (hS : ScS w w g s i l) (hl : l.length <= 65536) (hs : s.size <= 65536) (hi : i < s.size) (ha : mkCh s[i]! = true) :
 Calls Tryz.prog 105 #[.pointer (some ⟨g, 0, none⟩)] w fun e w' => e = .returned (.int .i64 0) /\ ScS w w' g s (i + 1) (l ++ [⟨1, 0, ⟨#[s[i]!]⟩, i⟩]) := by
 have ht : s.extract i (i + 1) = ⟨#[s[i]!]⟩ := bytes_ext (ext_one hi)
 have HLY : Hid (∀ n, Calls Tryz.prog 139 #[.pointer (some ⟨g, 0, none⟩), .agg #[.int .i64 1, .int .i64 0, .string (s.extract i (i + 1)), .int .i64 0], .int .i64 ((i : Int) + 1)] (w.drewN n) fun e w' => e = .returned (.tuple #[]) /\ ScS (w.drewN n) w' g s (i + 1) (l ++ [⟨1, 0, s.extract i (i + 1), i⟩])) := fun n => lay_any (w.drewN n) g i (i + 1) 0 0 s (s.extract i (i + 1)) 1 l (hS.now n) hl
 rw [<- ht]
 obtain ⟨c0, c1, hg⟩ := hS.cells
 have hmk := ha
 unfold mkCh at ha
 simp only [Bool.or_eq_true, decide_eq_true_eq] at ha
 rw [get_bang s i hi] at ha hmk
 have HIX : Hid (∀ W, Calls Tryz.prog 104 #[.string ⟨#[123, 125, 91, 93, 58, 44]⟩, .int .u8 (s[i].toNat : Int)] W fun e w' => e = .returned (.int .i64 (Lib.indexByte [123, 125, 91, 93, 58, 44] s[i])) /\ w' = W) := fun W => (strings_IndexByte _ _ W).mono (fun e w' h => ⟨by rw [h.1, indexByte_u8], h.2⟩)
 have hix := mk_index s[i]
 rw [hmk] at hix
 have hix2 : 0 <= Lib.indexByte [123, 125, 91, 93, 58, 44] s[i] := of_decide_eq_true hix
 obtain ⟨x, hx⟩ : ∃ x, Lib.indexByte [123, 125, 91, 93, 58, 44] s[i] = x := ⟨_, rfl⟩
 rw [hx] at HIX hix hix2
 have i0 : (0 : Int) <= (i : Int) := Int.natCast_nonneg _
 have i1 : (i : Int) < (s.size : Int) := by omega
 have i2 : i < 4398046510976 := by omega
 have e1 : (((s[i].toNat : Nat) : Int) == 34) = false := by simp; omega
 have e2 : (((s[i].toNat : Nat) : Int) == 45) = false := by simp; omega
 have e3 : s[i].toNat < 48 \/ (48 <= s[i].toNat /\ 57 < s[i].toNat) := by omega
 have k1 : IntKind.i64.wrap ((i : Int) + 1) = (i : Int) + 1 := IntWalk.i64_in _ (by omega)
 have k2 : (0 : Int) <= (i : Int) + 1 := by omega
 have k3 : ((i : Int) + 1).toNat = i + 1 := by omega
 have k4 : (i : Int) + 1 <= (s.size : Int) := by omega
 have k5 : (i : Int) <= (i : Int) + 1 := by omega
 have HI := Lib.hid hi
 clear ha hmk ht hx hs hl hS
 rcases e3 with e3 | ⟨e3, e4⟩
 all_goals first
  | (have q1 : ¬ (48 <= s[i].toNat) := by omega
     have q2 : ¬ ((48 : Int) <= ((s[i].toNat : Nat) : Int)) := by omega
     have q3 : decide ((48 : Int) <= ((s[i].toNat : Nat) : Int)) = false := decide_eq_false q2
     have q4 : decide (48 <= s[i].toNat) = false := decide_eq_false q1
     have q5 : True := trivial
     have q6 : True := trivial
     have q7 : True := trivial)
  | (have q1 : ¬ (s[i].toNat <= 57) := by omega
     have q2 : ¬ (((s[i].toNat : Nat) : Int) <= 57) := by omega
     have q3 : decide (((s[i].toNat : Nat) : Int) <= 57) = false := decide_eq_false q2
     have q4 : decide (s[i].toNat <= 57) = false := decide_eq_false q1
     have q5 : ((48 : Int) <= ((s[i].toNat : Nat) : Int)) := by omega
     have q6 : decide ((48 : Int) <= ((s[i].toNat : Nat) : Int)) = true := decide_eq_true q5
     have q7 : decide (48 <= s[i].toNat) = true := decide_eq_true e3)
 all_goals
  go_enter Tryz.func105, Tryz.ntmps105
  go_wp2_with fail
  go_quiet (fail)
  go_wp2_with (go_at_call 104; refine (HIX.out _).mono ?_; rintro e w1 ⟨rfl, rfl⟩)
  have HL2 := Lib.hid (HLY.out (nq + 1))
  have c0' : (w.drewN nq).cell? ⟨g, 0, none⟩ = some (.string s) := c0
  have c1' : (w.drewN nq).cell? ⟨g, 1, none⟩ = some (.int .i64 i) := c1
  have hdd : (w.drewN nq).drew = w.drewN (nq + 1) := rfl
  rw [<- hdd] at HL2
  obtain ⟨W, hW⟩ : ∃ W, w.drewN nq = W := ⟨_, rfl⟩
  rw [hW] at c0' c1' HL2
  try rw [hW]
  have c0'' : ({ heap := W.heap, tape := W.tape, drawn := W.drawn + 1, os := W.os, output := W.output } : World).cell? ⟨g, 0, none⟩ = some (.string s) := c0'
  have c1'' : ({ heap := W.heap, tape := W.tape, drawn := W.drawn + 1, os := W.os, output := W.output } : World).cell? ⟨g, 1, none⟩ = some (.int .i64 i) := c1'
  go_still_tail 21, (by kernel_rfl)
  change wpList _ _ _ _ _ W.drew
  have HBW : Hid (Below w.heap.size w W.drew) := by rw [<- hW]; exact bdn (Below.refl _ _) (nq + 1)
  generalize W.drew = W2 at HL2 HBW ⊢
  clear c0' c1' c0'' c1'' hW hdd
  go_wp2_with (go_at_call 139; refine HL2.out.mono ?_; rintro e w4 ⟨rfl, hS4⟩)
  go_ret
  exact ⟨rfl, hS4.ex, (HBW.out.mono (Nat.le_of_lt hg)).trans hS4.below⟩
theorem one_text (w : World) (g i j : Nat) (s : ByteArray) (l : List Tok) (hS : ScS w w g s i l) (hl : l.length <= 65536) (hs : s.size <= 65536) (hij : i < j) (hj : j < s.size) (h0 : s[i]!.toNat = 34) (hm : ∀ k, i < k -> k < j -> okCh s[k]! = true) (h1 : s[j]!.toNat = 34) :
 Calls Tryz.prog 105 #[.pointer (some ⟨g, 0, none⟩)] w fun e w' => e = .returned (.int .i64 0) /\ ScS w w' g s (j + 1) (l ++ [⟨4, 0, cutB s (i + 1) j, i⟩]) := by
 have HCR : Hid (∀ n, Calls Tryz.prog 138 #[.string s, .int .i64 i] (w.drewN n) fun e w' => e = .returned (.tuple #[.string (cutB s (i + 1) j), .int .i64 ((j : Int) + 1), .int .i64 0]) /\ Below (w.drewN n).heap.size (w.drewN n) w') := fun n => cread_plain s i j (w.drewN n) hs hij hj h0 hm h1
 have HLY : Hid (∀ W, ScS W W g s i l -> Calls Tryz.prog 139 #[.pointer (some ⟨g, 0, none⟩), .agg #[.int .i64 4, .int .i64 0, .string (cutB s (i + 1) j), .int .i64 0], .int .i64 ((j : Int) + 1)] W fun e w' => e = .returned (.tuple #[]) /\ ScS W w' g s (j + 1) (l ++ [⟨4, 0, cutB s (i + 1) j, i⟩])) := fun W h => lay_any W g i (j + 1) 0 0 s (cutB s (i + 1) j) 4 l h hl
 obtain ⟨c0, c1, hg⟩ := hS.cells
 have hi : i < s.size := by omega
 rw [get_bang s i hi] at h0
 have i0 : (0 : Int) <= (i : Int) := Int.natCast_nonneg _
 have i1 : (i : Int) < (s.size : Int) := by omega
 have i2 : i < 4398046510976 := by omega
 have e1 : (((s[i].toNat : Nat) : Int) == 34) = true := by simp; omega
 have HSS := Lib.hid hS
 obtain ⟨x, hx⟩ : ∃ x, cutB s (i + 1) j = x := ⟨_, rfl⟩
 rw [hx] at HCR HLY
 rw [hx]
 clear hm h0 h1 hx hs hl hS
 go_enter Tryz.func105, Tryz.ntmps105
 go_wp2_with fail
 go_quiet (fail)
 go_wp2_with fail
 have keep : ∀ (n : Nat) (w3 : World), Below (w.drewN n).heap.size (w.drewN n) w3 -> w3.cell? ⟨g, 0, none⟩ = some (.string s) /\ w3.cell? ⟨g, 1, none⟩ = some (.int .i64 i) := fun n w3 hb => ⟨bcs hb hg c0, bcs hb hg c1⟩
 have HK := Lib.hid keep
 clear keep
 go_region_held3 (fun w' => w'.cell? ⟨g, 0, none⟩ = some (.string s) /\ w'.cell? ⟨g, 1, none⟩ = some (.int .i64 i))
  (first | exact ⟨c0, c1⟩ | exact hc3)
  ((go_at_call 138; refine (HCR.out _).mono ?_; rintro e w3 ⟨rfl, hb3⟩; have hc3 := HK.out _ _ hb3))
 have HB3 : Hid (Below w.heap.size w w3) := (bdn (Below.refl _ _) _).trans hb3
 clear hb3
 go_wp2_with (go_at_call 139; refine (HLY.out _ (HSS.out.call HB3.out).self).mono ?_; rintro e w4 ⟨rfl, hS4⟩)
 go_ret
 exact ⟨rfl, hS4.ex, (HB3.out.mono (Nat.le_of_lt hg)).trans hS4.below⟩
theorem word_first {s wd : ByteArray} {i : Nat} (hw : wd = wTrue \/ wd = wFalse \/ wd = wNull) (hi : i < s.size) (ha : wordAt s i wd = true) : s[i]! = 116 \/ s[i]! = 102 \/ s[i]! = 110 := by
 obtain ⟨r, hr⟩ := word_split ha
 have h1 : (s.data.toList.drop i)[0]? = some s[i]! := by
  rw [List.getElem?_drop, Nat.add_zero, List.getElem?_eq_getElem (by rw [Array.length_toList]; exact hi), get_bang s i hi]
  rfl
 rw [hr] at h1
 rcases hw with rfl | rfl | rfl
 ·left; simp [wTrue] at h1; exact h1.symm
 ·right; left; simp [wFalse] at h1; exact h1.symm
 ·right; right; simp [wNull] at h1; exact h1.symm
theorem one_word (w : World) (g i : Nat) (s wd : ByteArray) (l : List Tok) (hS : ScS w w g s i l) (hl : l.length <= 65536) (hs : s.size <= 65536) (hi : i < s.size) (hw : wd = wTrue \/ wd = wFalse \/ wd = wNull) (ha : wordAt s i wd = true) :
 Calls Tryz.prog 105 #[.pointer (some ⟨g, 0, none⟩)] w fun e w' => e = .returned (.int .i64 0) /\ ScS w w' g s (i + wd.size) (l ++ [⟨2, 0, wd, i⟩]) := by
 have HWD : Hid (∀ n, Calls Tryz.prog 141 #[.pointer (some ⟨g, 0, none⟩)] (w.drewN n) fun e w' => e = .returned (.bool true) /\ ScS (w.drewN n) w' g s (i + wd.size) (l ++ [⟨2, 0, wd, i⟩])) := fun n => word_any (w.drewN n) g i s wd l (hS.now n) hl hs hi hw ha
 have hf := word_first hw hi ha
 obtain ⟨c0, c1, hg⟩ := hS.cells
 have hmk : mkCh s[i]! = false := by rcases hf with h | h | h <;> rw [h] <;> decide
 rw [get_bang s i hi] at hf hmk
 have hb : s[i].toNat = 116 \/ s[i].toNat = 102 \/ s[i].toNat = 110 := by rcases hf with h | h | h <;> rw [h] <;> decide
 have HIX : Hid (∀ W, Calls Tryz.prog 104 #[.string ⟨#[123, 125, 91, 93, 58, 44]⟩, .int .u8 (s[i].toNat : Int)] W fun e w' => e = .returned (.int .i64 (Lib.indexByte [123, 125, 91, 93, 58, 44] s[i])) /\ w' = W) := fun W => (strings_IndexByte _ _ W).mono (fun e w' h => ⟨by rw [h.1, indexByte_u8], h.2⟩)
 have hix := mk_index s[i]
 rw [hmk] at hix
 have hix2 : ¬ (0 <= Lib.indexByte [123, 125, 91, 93, 58, 44] s[i]) := of_decide_eq_false hix
 obtain ⟨x, hx⟩ : ∃ x, Lib.indexByte [123, 125, 91, 93, 58, 44] s[i] = x := ⟨_, rfl⟩
 rw [hx] at HIX hix hix2
 have i0 : (0 : Int) <= (i : Int) := Int.natCast_nonneg _
 have i1 : (i : Int) < (s.size : Int) := by omega
 have i2 : i < 4398046510976 := by omega
 have e1 : (((s[i].toNat : Nat) : Int) == 34) = false := by simp; omega
 have e2 : (((s[i].toNat : Nat) : Int) == 45) = false := by simp; omega
 have q1 : ¬ (s[i].toNat <= 57) := by omega
 have q2 : ¬ (((s[i].toNat : Nat) : Int) <= 57) := by omega
 have q3 : decide (((s[i].toNat : Nat) : Int) <= 57) = false := decide_eq_false q2
 have q4 : decide (s[i].toNat <= 57) = false := decide_eq_false q1
 have q5 : ((48 : Int) <= ((s[i].toNat : Nat) : Int)) := by omega
 have q6 : decide ((48 : Int) <= ((s[i].toNat : Nat) : Int)) = true := decide_eq_true q5
 have q8 : 48 <= s[i].toNat := by omega
 have q7 : decide (48 <= s[i].toNat) = true := decide_eq_true q8
 have hlt : x < 0 := by omega
 clear hf hmk hb hx hs hl hS ha
 go_enter Tryz.func105, Tryz.ntmps105
 go_wp2_with fail
 go_quiet (fail)
 go_wp2_with (first
  | (go_at_call 104; refine (HIX.out _).mono ?_; rintro e w1 ⟨rfl, rfl⟩)
  | (go_at_call 141; refine (HWD.out _).mono ?_; rintro e w4 ⟨rfl, hS4⟩))
 go_ret
 exact ⟨rfl, hS4.ex, (bdn (Below.refl _ _) _).trans hS4.below⟩
theorem ret_intN {k : IntKind} {a b : Int} (h : a = b) : Ending.returned (.int k a) = .returned (.int k b) := by rw [h]
theorem span_one (s : ByteArray) (i : Nat) (w : World) (hs : s.size <= 65536) (hi : i + 1 < s.size) (h1 : 49 <= s[i].toNat) (h2 : s[i].toNat <= 57) (h3 : s[i + 1].toNat = 125) :
 Calls Tryz.prog 155 #[.string s, .int .i64 (i : Int)] w fun e w' => e = .returned (.int .i64 ((i : Int) + 1)) /\ w' = w := by
 have i0 : (0 : Int) <= (i : Int) := Int.natCast_nonneg _
 go_enter Tryz.func155, Tryz.ntmps155
 go_wp2_with fail
 have HI : Hid (∀ k, k = i + 1 -> (h : k < s.size) -> s[k].toNat = 125) := fun k e h => by subst e; exact h3
 go_loopw [1] (fun a wr => ∃ k : Nat, k < s.size /\ (k = i \/ k = i + 1) /\ a = .int .i64 (k : Int) /\ w = wr) (fun a _ => (s.size - (intOf a).toNat))
 case atStart => exact ⟨i, by omega, .inl rfl, rfl, rfl⟩
 case round =>
  obtain ⟨k, hk, hki, rfl, rfl⟩ := hrel
  have k0 : (0 : Int) <= (k : Int) := Int.natCast_nonneg _
  have k1 : (k : Int) < (s.size : Int) := by omega
  by_cases he : k = i
  ·subst he
   have q1 : ((48 : Int) <= ((s[k].toNat : Nat) : Int)) := by omega
   have q2 : (((s[k].toNat : Nat) : Int) <= 57) := by omega
   have q3 : decide ((48 : Int) <= ((s[k].toNat : Nat) : Int)) = true := decide_eq_true q1
   have q4 : decide (((s[k].toNat : Nat) : Int) <= 57) = true := decide_eq_true q2
   have q5 : 48 <= s[k].toNat := by omega
   clear h3
   go_wp2_with fail
   go_roundw
   case rel => exact ⟨k + 1, hi, .inr rfl, by go_num, by trivial⟩
   case measure => simp [intOf]; omega
  ·have hk2 : k = i + 1 := by omega
   have q0 := HI.out k hk2 hk
   have q1 : ((48 : Int) <= ((s[k].toNat : Nat) : Int)) := by omega
   have q2 : ¬ (((s[k].toNat : Nat) : Int) <= 57) := by omega
   have q3 : decide ((48 : Int) <= ((s[k].toNat : Nat) : Int)) = true := decide_eq_true q1
   have q4 : decide (((s[k].toNat : Nat) : Int) <= 57) = false := decide_eq_false q2
   have q5 : 48 <= s[k].toNat := by omega
   have q6 : ¬ s[k].toNat <= 57 := by omega
   have HK2 := Lib.hid hk2
   clear h3 q0 h1 h2 hk2 hki he hi
   go_wp2_with fail
   go_ret
   exact ⟨ret_intN (by have := HK2.out; omega), rfl⟩
theorem value_one (s : ByteArray) (w : World) (hs : s.size = 1) (h1 : 49 <= s[0].toNat) (h2 : s[0].toNat <= 57) :
 Calls Tryz.prog 156 #[.string s] w fun e w' => e = .returned (.tuple #[.int .i64 ((s[0].toNat : Int) - 48), .bool true]) /\ w' = w := by
 obtain ⟨d, hd⟩ : ∃ d, s[0] = d := ⟨_, rfl⟩
 rw [hd] at h1 h2
 rw [hd]
 have HD : Hid (∀ k, k = 0 -> (h : k < s.size) -> s[k] = d) := fun k e h => by subst e; exact hd
 have hlt := d.toNat_lt
 clear hd
 go_enter Tryz.func156, Tryz.ntmps156
 go_wp2_with fail
 go_loopw [4, 8] (fun a b wr => ((b = .int .i64 0 /\ a = .int .i64 0) \/ (b = .int .i64 1 /\ a = .int .i64 ((d.toNat : Int) - 48))) /\ w = wr) (fun _ b _ => (1 - (intOf b).toNat))
 case atStart => exact ⟨.inl ⟨rfl, rfl⟩, rfl⟩
 case round =>
  obtain ⟨hrel, rfl⟩ := hrel
  rcases hrel with ⟨rfl, rfl⟩ | ⟨rfl, rfl⟩
  ·have l1 : (0 : Int) < (s.size : Int) := by omega
   have l2 : 0 < s.size := by omega
   have hd := HD.out 0 rfl l2
   have hw : IntKind.u8.wrap ((d.toNat : Int) - 48) = (d.toNat : Int) - 48 := by
    unfold IntKind.wrap
    simp [IntKind.bits, IntKind.signed]
    try omega
   go_wp2_with fail
   exact ⟨⟨.inr ⟨rfl, rfl⟩, trivial⟩, by simp [intOf]⟩
  ·have l1 : (s.size : Int) = 1 := by omega
   go_wp2_with fail
   refine bodyPost_ret (v := .tuple #[.int .i64 ((d.toNat : Int) - 48), .bool true]) (by simp [results, Tryz.results156, go_sem]) rfl ⟨rfl, rfl⟩
theorem ext_oneN (s : ByteArray) (i : Nat) (h : i < s.size) : (s.extract i (i + 1)).size = 1 /\ ∀ h', (s.extract i (i + 1))[0]'h' = s[i] := by
 refine ⟨by rw [ByteArray.size_extract]; omega, fun h' => ?_⟩
 simp [ByteArray.getElem_extract]
theorem numsRead_one (s : ByteArray) (i : Nat) (w : World) (hs : s.size <= 65536) (hi : i + 1 < s.size) (h1 : 49 <= s[i].toNat) (h2 : s[i].toNat <= 57) (h3 : s[i + 1].toNat = 125) :
 Calls Tryz.prog 140 #[.string s, .int .i64 (i : Int)] w fun e w' => e = .returned (.tuple #[.int .i64 ((s[i].toNat : Int) - 48), .int .i64 ((i : Int) + 1), .int .i64 0]) /\ w' = w := by
 have HSP : Hid (∀ W, Calls Tryz.prog 155 #[.string s, .int .i64 (i : Int)] W fun e w' => e = .returned (.int .i64 ((i : Int) + 1)) /\ w' = W) := fun W => span_one s i W hs hi h1 h2 h3
 obtain ⟨z1, z2⟩ := ext_oneN s i (by omega)
 have HVA : Hid (∀ W, Calls Tryz.prog 156 #[.string (s.extract i (i + 1))] W fun e w' => e = .returned (.tuple #[.int .i64 ((s[i].toNat : Int) - 48), .bool true]) /\ w' = W) := fun W => by
  have := value_one (s.extract i (i + 1)) W z1 (by rw [z2]; exact h1) (by rw [z2]; exact h2)
  rw [z2] at this
  exact this
 have hor : ∀ x : UInt8, x.toNat = 125 -> (IntKind.u8.wrap ((125 : Int)) = 125) := fun _ _ => rfl
 obtain ⟨k, hk⟩ : ∃ k, i + 1 = k := ⟨_, rfl⟩
 rw [hk] at HVA
 have i0 : (0 : Int) <= (i : Int) := Int.natCast_nonneg _
 have i1 : (i : Int) < (s.size : Int) := by omega
 have e1 : (((s[i].toNat : Nat) : Int) == 45) = false := by simp; omega
 have e2 : (((s[i].toNat : Nat) : Int) == 48) = false := by simp; omega
 have i2 : (i : Int) + 1 < (s.size : Int) := by omega
 clear z1 z2 hor
 go_enter Tryz.func140, Tryz.ntmps140
 go_upto_region 7 with (go_at_call 155; (with_reducible refine (HSP.out _).mono ?_); rintro e w1 ⟨rfl, rfl⟩)
 have e3 : (((i : Int) + 1) == (i : Int)) = false := by (rw [beq_eq_false_iff_ne]; omega)
 have e5 : (i : Int) + 1 - (i : Int) = 1 := by omega
 have hk' : k < s.size := by omega
 have gk : s[k].toNat = 125 := by subst hk; exact h3
 have q1 : (((s[k].toNat : Nat) : Int) == 46) = false := by rw [gk]; rfl
 have q2 : ¬ ((s[k].toNat : Nat) : Int) = 46 := by omega
 have q3 : (bits BinOp.or IntKind.u8 ((s[k].toNat : Nat) : Int) 32 == 101) = false := by rw [gk]; rfl
 clear gk h3 h1 h2
 go_wp2_with (go_at_call 156; (with_reducible refine (HVA.out _).mono ?_); rintro e w2 ⟨rfl, rfl⟩)
 refine bodyPost_ret (v := .tuple #[.int .i64 ((s[i].toNat : Int) - 48), .int .i64 ((i : Int) + 1), .int .i64 0]) (by simp [results, Tryz.results140, go_sem]) rfl ⟨rfl, rfl⟩
theorem one_num (w : World) (g i : Nat) (s : ByteArray) (l : List Tok) (hS : ScS w w g s i l) (hl : l.length <= 65536) (hs : s.size <= 65536) (hi : i + 1 < s.size) (h1 : 49 <= s[i]!.toNat) (h2 : s[i]!.toNat <= 57) (h3 : s[i + 1]!.toNat = 125) :
 Calls Tryz.prog 105 #[.pointer (some ⟨g, 0, none⟩)] w fun e w' => e = .returned (.int .i64 0) /\ ScS w w' g s (i + 1) (l ++ [⟨3, (s[i]!.toNat : Int) - 48, ⟨#[]⟩, i⟩]) := by
 rw [get_bang s i (by omega)] at h1 h2 ⊢
 rw [get_bang s (i + 1) hi] at h3
 obtain ⟨D, hD⟩ : ∃ D : Nat, (s[i].toNat : Int) - 48 = (D : Int) := ⟨s[i].toNat - 48, by omega⟩
 have HCR : Hid (∀ W, Calls Tryz.prog 140 #[.string s, .int .i64 i] W fun e w' => e = .returned (.tuple #[.int .i64 (D : Int), .int .i64 ((i : Int) + 1), .int .i64 0]) /\ w' = W) := fun W => hD ▸ numsRead_one s i W hs hi h1 h2 h3
 have HLY : Hid (∀ W, ScS W W g s i l -> Calls Tryz.prog 139 #[.pointer (some ⟨g, 0, none⟩), .agg #[.int .i64 3, .int .i64 (D : Int), .string ⟨#[]⟩, .int .i64 0], .int .i64 ((i : Int) + 1)] W fun e w' => e = .returned (.tuple #[]) /\ ScS W w' g s (i + 1) (l ++ [⟨3, (D : Int), ⟨#[]⟩, i⟩])) := fun W h => lay_any W g i (i + 1) D 0 s ⟨#[]⟩ 3 l h hl
 rw [hD]
 clear hD
 obtain ⟨c0, c1, hg⟩ := hS.cells
 have i0 : (0 : Int) <= (i : Int) := Int.natCast_nonneg _
 have i1 : (i : Int) < (s.size : Int) := by omega
 have i2 : i < 4398046510976 := by omega
 have e1 : (((s[i].toNat : Nat) : Int) == 34) = false := by simp; omega
 have e2 : (((s[i].toNat : Nat) : Int) == 45) = false := by simp; omega
 have q1 : ((48 : Int) <= ((s[i].toNat : Nat) : Int)) := by omega
 have q2 : (((s[i].toNat : Nat) : Int) <= 57) := by omega
 have q3 : decide ((48 : Int) <= ((s[i].toNat : Nat) : Int)) = true := decide_eq_true q1
 have q4 : decide (((s[i].toNat : Nat) : Int) <= 57) = true := decide_eq_true q2
 have q5 : 48 <= s[i].toNat := by omega
 have HSS := Lib.hid hS
 clear hs hl hS h1 h3
 go_enter Tryz.func105, Tryz.ntmps105
 go_wp2_with fail
 go_quiet (fail)
 go_upto_region 9 with fail
 go_quiet ((go_at_call 140; exact (HCR.out _).mono (fun e w' h => ⟨h.1, _, h.2⟩)))
 go_upto_region 12 with fail
 go_wp2_with (go_at_call 139; (first | (refine (HLY.out _ (HSS.out.now _)).mono ?_) | (refine (HLY.out _ ((HSS.out.now _).now _)).mono ?_)); rintro e w4 ⟨rfl, hS4⟩)
 go_ret
 exact ⟨rfl, hS4.ex, (bdn (Below.refl _ _) _).trans hS4.below⟩
theorem toks_le {s : ByteArray} {i : Nat} {l : List Tok} (h : Toks s i l) : i <= s.size := by
 induction h with
 | done => exact Nat.le_refl _
 | space h => omega
 | mark h => omega
 | text h => omega
 | num h => omega
 | word _ h => omega
theorem toks_len {s : ByteArray} {i : Nat} {l : List Tok} (h : Toks s i l) : l.length + i <= s.size := by
 induction h with
 | done => simp
 | space h _ _ ih => omega
 | mark h _ _ ih => rw [List.length_cons]; omega
 | text h _ _ _ _ _ ih => rw [List.length_cons]; omega
 | num h _ _ _ _ ih => rw [List.length_cons]; omega
 | @word i w l hw hi ha ht ih =>
   have : 1 <= w.size := by rcases hw with rfl | rfl | rfl <;> decide
   rw [List.length_cons]; omega
def TksR (w : World) (l : List Tok) (e : Ending) (w' : World) : Prop := ∃ p n c, e = .returned (.tuple #[.slice p n c, .int .i64 0, .int .i64 0]) /\ Own w' w.heap.size 115 encTok 4 (.slice p n c) l /\ Below w.heap.size w w'
theorem tokens_any (w : World) (s : ByteArray) (l : List Tok) (hs : s.size <= 65536) (ht : Toks s 0 l) : Calls Tryz.prog 76 #[.string s] w (TksR w l) := by
 have d1 : ¬ (65536 < (s.size : Int)) := by omega
 have d2 : ¬ (65536 < s.size) := by omega
 have HT := Lib.hid ht
 have hA : ScAt (w.alloc (.cells #[.string s, .int .i64 0, .slice none 0 0] 146)) w.heap.size s 0 (.slice none 0 0) := heap_alloc_at rfl
 have hS0 : ScS (w.alloc (.cells #[.string s, .int .i64 0, .slice none 0 0] 146)) (w.alloc (.cells #[.string s, .int .i64 0, .slice none 0 0] 146)) w.heap.size s 0 [] := ⟨⟨_, hA, Own.nil _ _ _⟩, Below.refl _ _⟩
 have hB0 : Below w.heap.size w (w.alloc (.cells #[.string s, .int .i64 0, .slice none 0 0] 146)) := (Below.refl _ _).alloc (Nat.le_refl _) _
 clear ht hA
 go_enter Tryz.func76, Tryz.ntmps76
 go_wp2_with fail
 obtain ⟨g, hg⟩ : ∃ g, w.heap.size = g := ⟨_, rfl⟩
 obtain ⟨W0, hW0⟩ : ∃ W, w.alloc (.cells #[.string s, .int .i64 0, .slice none 0 0] 146) = W := ⟨_, rfl⟩
 rw [hW0] at hS0 hB0
 rw [hg] at hS0
 try rw [hW0]
 try rw [hg]
 have HS0 := Lib.hid hS0
 have HB0 := Lib.hid hB0
 have HG := Lib.hid hg
 clear hS0 hB0 hW0 hg
 go_loopg [6] s.size (fun gk o wr => ∃ i l1 l2, gk = s.size - i /\ Hid (Toks s i l2 /\ l = l1 ++ l2 /\ ScS W0 wr g s i l1 /\ l1.length <= i))
 case atStart => exact ⟨0, [], l, rfl, HT.out, rfl, HS0.out, Nat.le_refl _⟩
 case round =>
  obtain ⟨i, l1, l2, hgk, hH⟩ := hrel
  obtain ⟨htk, hll, hsc, hlen⟩ := hH.out
  clear hH
  obtain ⟨c0, c1, hgw⟩ := hsc.cells
  have hle := toks_le htk
  have HGK := Lib.hid hgk
  have HLL := Lib.hid hll
  have HSC := Lib.hid hsc
  have HLEN := Lib.hid hlen
  clear hgk hll hlen
  have i0 : (0 : Int) <= (i : Int) := Int.natCast_nonneg _
  by_cases hi : i < s.size
  ·have i1 : (i : Int) < (s.size : Int) := by omega
   have i2 : i < 4398046510976 := by omega
   have HIX : Hid (∀ W, Calls Tryz.prog 104 #[.string ⟨#[32, 9, 10, 13]⟩, .int .u8 (s[i].toNat : Int)] W fun e w' => e = .returned (.int .i64 (Lib.indexByte [32, 9, 10, 13] s[i])) /\ w' = W) := fun W => (strings_IndexByte _ _ W).mono (fun e w' h => ⟨by rw [h.1, indexByte_u8], h.2⟩)
   have hix := sp_index s[i]
   by_cases hsp : spCh s[i]! = true
   ·have ht2 : Toks s (i + 1) l2 := by
     cases htk with
     | done => omega
     | space _ _ h => exact h
     | mark _ h => exfalso; revert h hsp; unfold spCh mkCh; simp only [Bool.or_eq_true, decide_eq_true_eq]; omega
     | text _ _ h => exfalso; revert hsp; unfold spCh; simp only [Bool.or_eq_true, decide_eq_true_eq]; omega
     | num _ h1 h2 => exfalso; revert hsp; unfold spCh; simp only [Bool.or_eq_true, decide_eq_true_eq]; omega
     | word h1 h2 h3 => exfalso; have := word_first h1 h2 h3; revert hsp; rcases this with h | h | h <;> rw [h] <;> decide
    have HT2 := Lib.hid ht2
    rw [get_bang s i hi] at hsp
    rw [hsp] at hix
    have hix2 : 0 <= Lib.indexByte [32, 9, 10, 13] s[i] := of_decide_eq_true hix
    obtain ⟨x, hx⟩ : ∃ x, Lib.indexByte [32, 9, 10, 13] s[i] = x := ⟨_, rfl⟩
    rw [hx] at HIX hix hix2
    obtain ⟨v, hv1, hv2⟩ := hsc.ex
    have z1 := hv1.frozen 1
    have hset := hv1.set1 (i + 1)
    have hgr := grownBy_set wr g 1 (.int .i64 ((i + 1 : Nat) : Int))
    have hsc2 : ScS W0 (wr.setCell ⟨g, 1, none⟩ (.int .i64 ((i + 1 : Nat) : Int))) g s (i + 1) l1 := ⟨⟨v, hset, hv2.same (fun k e => hgr.block k (hv2.lt k e).2 (fun e2 => by cases e2; have := (hv2.lt g e).1; omega))⟩, hsc.below.grown hgr (by omega) (fun k e => by cases e; exact Nat.le_refl _)⟩
    have ec : ((i + 1 : Nat) : Int) = (i : Int) + 1 := by omega
    rw [ec] at hsc2
    have HS2 := Lib.hid hsc2
    clear hsp hx htk ht2 hset hgr hsc hsc2 hv1 hv2 ec
    go_wp2_with (go_at_call 104; refine (HIX.out _).mono ?_; rintro e w1 ⟨rfl, rfl⟩)
    go_roundg (s.size - (i + 1))
    case measure => have := HGK.out; omega
    case rel => exact ⟨i + 1, l1, l2, rfl, HT2.out, HLL.out, HS2.out, by have := HLEN.out; omega⟩
   ·have ht2 : ∃ (t : Tok) (nx : Nat) (l3 : List Tok), l2 = t :: l3 /\ i < nx /\ Toks s nx l3 /\ (∀ W, ScS W W g s i l1 -> Calls Tryz.prog 105 #[.pointer (some ⟨g, 0, none⟩)] W fun e w' => e = .returned (.int .i64 0) /\ ScS W w' g s nx (l1 ++ [t])) := by
     have hl1 : l1.length <= 65536 := by have := HLEN.out; omega
     cases htk with
     | done => omega
     | space _ h _ => exact absurd h hsp
     | mark h1 h2 h3 => exact ⟨_, i + 1, _, rfl, by omega, h3, fun W hW => one_mark W g i s l1 hW hl1 hs h1 h2⟩
     | @text _ j _ h1 h2 h3 h4 h5 h6 => exact ⟨_, j + 1, _, rfl, by omega, h6, fun W hW => one_text W g i j s l1 hW hl1 hs h1 h2 h3 h4 h5⟩
     | num h1 h2 h3 h4 h5 => exact ⟨_, i + 1, _, rfl, by omega, h5, fun W hW => one_num W g i s l1 hW hl1 hs h1 h2 h3 h4⟩
     | @word _ wd _ h1 h2 h3 h4 =>
       have : 1 <= wd.size := by rcases h1 with rfl | rfl | rfl <;> decide
       exact ⟨_, i + wd.size, _, rfl, by omega, h4, fun W hW => one_word W g i s wd l1 hW hl1 hs h2 h1 h3⟩
    obtain ⟨t, nx, l3, hl2, hnx, ht3, hone⟩ := ht2
    have HON := Lib.hid hone
    have HL2 : Hid (l = (l1 ++ [t]) ++ l3) := by unfold Hid; rw [HLL.out, hl2]; simp
    have HT3 := Lib.hid ht3
    have hsp2 : spCh s[i] = false := by rw [<- get_bang s i hi]; simpa using hsp
    rw [hsp2] at hix
    have hix2 : ¬ (0 <= Lib.indexByte [32, 9, 10, 13] s[i]) := of_decide_eq_false hix
    obtain ⟨x, hx⟩ : ∃ x, Lib.indexByte [32, 9, 10, 13] s[i] = x := ⟨_, rfl⟩
    rw [hx] at HIX hix hix2
    have hlt : x < 0 := by omega
    clear hsp hsp2 hx htk hl2 ht3 hone hsc
    go_wp2_with (first
     | (go_at_call 104; refine (HIX.out _).mono ?_; rintro e w1 ⟨rfl, rfl⟩)
     | (go_at_call 105; refine (HON.out _ HSC.out.self).mono ?_; rintro e w2 ⟨rfl, hS2⟩))
    go_roundg (s.size - nx)
    case measure => have := HGK.out; omega
    case rel => exact ⟨nx, l1 ++ [t], l3, rfl, HT3.out, HL2.out, ⟨hS2.ex, HSC.out.below.trans hS2.below⟩, by have := HLEN.out; simp; omega⟩
  ·obtain rfl : i = s.size := by omega
   have hl2 : l2 = [] := List.eq_nil_of_length_eq_zero (by have := toks_len htk; omega)
   have HL1 : Hid (l = l1) := by unfold Hid; rw [HLL.out, hl2, List.append_nil]
   obtain ⟨v, hv1, hv2⟩ := hsc.ex
   obtain ⟨p, n, c, rfl⟩ : ∃ p n c, v = Value.slice p n c := by obtain ⟨p, c, hv, _, _⟩ := hv2.len; exact ⟨p, _, c, hv⟩
   have c2 := hv1.cell 2 rfl
   have HV := Lib.hid hv2
   have HBW := Lib.hid hsc.below
   clear htk hl2 hv1 hv2 hsc
   go_wp2_with fail
   go_ret3
   rw [HL1.out]
   exact ⟨p, n, c, rfl, HV.out.mono (by have := HG.out; omega), by have h := HBW.out; rw [<- HG.out] at h; exact HB0.out.trans h⟩
theorem readCatch_idle (a b c : Value) (w : World) : CallsD Tryz.prog 77 #[a, b, c] .returning w fun e u' w' => e = .returned (.tuple #[]) /\ u' = .returning /\ w' = w := by
 refine callsD_of_wpS Tryz.func77 rfl fun c₀ cs hu => ?_
 apply wpS_seq
 apply wpS_region
 simp [wpOpsS, go_sem, recoverD, hu, Tryz.ntmps77, Exit.thenS]
 apply wpS_seq
 apply wpS_region
 simp [wpOpsS, go_sem, Exit.thenS]
 refine wpS_cond (t := false) (by simp [Act.eval, Array.replicate]) ?_
 simp only [Bool.false_eq_true, if_false]
 refine wpS_of_wp (wp_skip ?_)
 cases c₀
 simp_all [bodyPostS, results, Tryz.results77]
def NumBk (W : World) (ty : TypeId) (g : Nat) (n : Int) : Prop := W.heap[g]? = some (.cells #[.int .i64 n] ty (0, 0))
section
variable {W W' : World} {ty : TypeId} {g : Nat} {n : Int} (h : NumBk W ty g n)
include h
theorem NumBk.lt : g < W.heap.size := (Array.getElem?_eq_some_iff.1 h).1
theorem NumBk.cell : W.cell? ⟨g, 0, none⟩ = some (.int .i64 n) := by
 unfold NumBk at h
 rw [cell_of_row W g 0 _ _ _ h]
 rfl
theorem NumBk.frozen : W.frozen? ⟨g, 0, none⟩ = false := by
 unfold NumBk at h
 simp [World.frozen?, h]
theorem NumBk.keep (hk : W'.heap[g]? = W.heap[g]?) : NumBk W' ty g n := hk.trans h
theorem NumBk.set (m : Int) : NumBk (W.setCell ⟨g, 0, none⟩ (.int .i64 m)) ty g m := by
 unfold NumBk at h ⊢
 simp [World.setCell, Array.getElem?_modify, h]
end
def ReadRet (w : World) (v : JV) (e : Ending) (w' : World) : Prop := ∃ r : RV, e = .returned (.tuple #[RV.val r, .int .i64 0, .int .i64 0]) /\ TreeOf w' w'.heap.size v r /\ Below w.heap.size w w'
def ReadRetS (w : World) (v : JV) (e : Ending) (w' : World) : Prop := ∃ r : RV, e = .returned (.tuple #[RV.val r, .int .i64 0, .int .i64 0]) /\ TreeS w' (fun k => w.heap.size <= k /\ k < w'.heap.size) v r /\ Below w.heap.size w w'
theorem readF_parts {s : ByteArray} {v : JV} (h : readF s = some v) : ∃ t ts q, Toks s 0 (t :: ts) /\ parV ((t :: ts).length + 1) 1 0 (t :: ts) = some (v, q, []) := by
 unfold readF at h
 split at h
 ·cases h
 ·rename_i l hl
  split at h
  ·rename_i v' q hv
   cases h
   cases l with
   | nil => simp [parV] at hv
   | cons t ts => exact ⟨t, ts, q, toksF_ok s _ _ _ hl, hv⟩
  ·cases h
theorem readS_any (w : World) (s : ByteArray) (v : JV) (hs : s.size <= 65536) (hv : readF s = some v) : Calls Tryz.prog 38 #[.string s] w (ReadRetS w v) := by
 obtain ⟨t, ts, q, htk, hpv⟩ := readF_parts hv
 have HTK : Hid (∀ W, Calls Tryz.prog 76 #[.string s] W (TksR W (t :: ts))) := fun W => tokens_any W s (t :: ts) hs htk
 have HNX : Hid (∀ W g en, RdS W g (t :: ts) en 0 -> Calls Tryz.prog 79 #[.pointer (some ⟨g, 0, none⟩)] W (NxtRet W g t ts en 0)) := fun W g en hr => next_any W g en 0 t ts hr
 have HVA : Hid (∀ W g en, RdS W g ts en 0 -> Calls Tryz.prog 78 #[.pointer (some ⟨g, 0, none⟩), t.val, .int .i64 1] W (ValR W g v [] en q)) := fun W g en hr => value_all _ _ (Nat.le_refl _) 1 0 t ts v q [] hpv W g en hr
 clear hv htk hpv
 have hZ0 : VAt (((w.alloc (.cells #[.int .i64 0, .int .i64 0, .string ⟨#[]⟩, .slice none 0 0, .slice none 0 0] 25)).alloc (.cells #[.int .i64 0] 3)).alloc (.cells #[.int .i64 0] 40)) w.heap.size RV.zero := heap_alloc_lt (by simp; omega) (heap_alloc_lt (by simp) (heap_alloc_at rfl))
 have hN1 : NumBk (((w.alloc (.cells #[.int .i64 0, .int .i64 0, .string ⟨#[]⟩, .slice none 0 0, .slice none 0 0] 25)).alloc (.cells #[.int .i64 0] 3)).alloc (.cells #[.int .i64 0] 40)) 3 (w.heap.size + 1) 0 := heap_alloc_lt (by simp) (heap_alloc_at (by simp))
 have hN2 : NumBk (((w.alloc (.cells #[.int .i64 0, .int .i64 0, .string ⟨#[]⟩, .slice none 0 0, .slice none 0 0] 25)).alloc (.cells #[.int .i64 0] 3)).alloc (.cells #[.int .i64 0] 40)) 40 (w.heap.size + 1 + 1) 0 := heap_alloc_at (by simp)
 have hB0 : Below w.heap.size w (((w.alloc (.cells #[.int .i64 0, .int .i64 0, .string ⟨#[]⟩, .slice none 0 0, .slice none 0 0] 25)).alloc (.cells #[.int .i64 0] 3)).alloc (.cells #[.int .i64 0] 40)) := (((Below.refl _ _).alloc (Nat.le_refl _) _).alloc (by simp) _).alloc (by simp; omega) _
 have hs0 : (((w.alloc (.cells #[.int .i64 0, .int .i64 0, .string ⟨#[]⟩, .slice none 0 0, .slice none 0 0] 25)).alloc (.cells #[.int .i64 0] 3)).alloc (.cells #[.int .i64 0] 40)).heap.size = w.heap.size + 3 := by simp
 have hmf : ∀ (fn : Fn) (first cap : Array Value) (w : World), (Instr.makeFunc fn first cap).run Tryz.prog w = .ok (.func fn first cap) w := fun _ _ _ _ => rfl
 go_enter_defers Tryz.func38, Tryz.ntmps38
 go_upto_region 1 with fail
 obtain ⟨W0, hW0⟩ : ∃ W, ((w.alloc (.cells #[.int .i64 0, .int .i64 0, .string ⟨#[]⟩, .slice none 0 0, .slice none 0 0] 25)).alloc (.cells #[.int .i64 0] 3)).alloc (.cells #[.int .i64 0] 40) = W := ⟨_, rfl⟩
 rw [hW0] at hZ0 hN1 hN2 hB0 hs0
 try rw [hW0]
 clear hW0
 have HZ0 := Lib.hid hZ0
 have HN1 := Lib.hid hN1
 have HN2 := Lib.hid hN2
 have HB0 := Lib.hid hB0
 have HS0 := Lib.hid hs0
 clear hZ0 hN1 hN2 hB0 hs0
 go_upto_region 2 with (go_at_call 76; refine (HTK.out _).mono ?_; rintro e w1 ⟨p1, n1, c1, rfl, hr1, hb1⟩; (have hN11 := HN1.out.keep (hb1.block _ HN1.out.lt)); (have hN21 := HN2.out.keep (hb1.block _ HN2.out.lt)); (have x1 := hN11.cell); (have x2 := hN21.cell); (have y1 := hN11.frozen); (have y2 := hN21.frozen))
 have hg1 := grownBy_set w1 (w.heap.size + 1) 0 (.int .i64 0)
 have hg2 := grownBy_set (w1.setCell ⟨w.heap.size + 1, 0, none⟩ (.int .i64 0)) (w.heap.size + 1 + 1) 0 (.int .i64 0)
 have hN12 := (hN11.set 0).keep (hg2.block _ (hN11.set 0).lt (by simp))
 have hN22 := (hN21.keep (hg1.block _ hN21.lt (by simp))).set 0
 have hZ1 := HZ0.out.keep (hb1.block _ HZ0.out.lt)
 have hZ2 := (hZ1.keep (hg1.block _ hZ1.lt (by simp)))
 have hZ3 := hZ2.keep (hg2.block _ hZ2.lt (by simp; omega))
 have hb2 : Below w.heap.size w ((w1.setCell ⟨w.heap.size + 1, 0, none⟩ (.int .i64 0)).setCell ⟨w.heap.size + 1 + 1, 0, none⟩ (.int .i64 0)) :=
  ((HB0.out.trans (hb1.mono HB0.out.size)).grown hg1 (by have := HS0.out; have := hb1.size; omega) (fun k e => by cases e; omega)).grown hg2 (by have := HS0.out; have := hb1.size; simp; omega) (fun k e => by cases e; omega)
 obtain ⟨w2, hw2⟩ : ∃ W, (w1.setCell ⟨w.heap.size + 1, 0, none⟩ (.int .i64 0)).setCell ⟨w.heap.size + 1 + 1, 0, none⟩ (.int .i64 0) = W := ⟨_, rfl⟩
 have hO2 := hr1.same (w' := (w1.setCell ⟨w.heap.size + 1, 0, none⟩ (.int .i64 0)).setCell ⟨w.heap.size + 1 + 1, 0, none⟩ (.int .i64 0)) (fun k e => by
  have h3 := hr1.lt k e
  have h4 := HS0.out
  exact (hg2.block k (by simp; omega) (fun e2 => by cases e2; omega)).trans (hg1.block k h3.2 (fun e2 => by cases e2; omega)))
 rw [hw2] at hN12 hN22 hZ3 hb2 hO2
 try rw [hw2]
 have HO2 := Lib.hid hO2
 have HN3 := Lib.hid hN12
 have HN4 := Lib.hid hN22
 have HZ3 := Lib.hid hZ3
 have HB2 := Lib.hid hb2
 have a2 := hN22.cell
 clear hw2 hg1 hg2 hN11 hN21 hZ1 hZ2 x1 x2 y1 y2 hr1 hb1 hN12 hN22 hZ3 hb2 hO2
 go_upto_region 6 with fail
 have hR5 : RdS (w2.alloc (.cells #[.slice p1 n1 c1, .int .i64 s.size, .int .i64 0] 112)) w2.heap.size (t :: ts) s.size 0 := ⟨p1, n1, c1, heap_alloc_at rfl, (HO2.out.rd codecTok).below ((Below.refl _ _).alloc (Nat.le_refl _) _) (Nat.le_refl _)⟩
 have hZ5 := HZ3.out.keep (W' := w2.alloc (.cells #[.slice p1 n1 c1, .int .i64 s.size, .int .i64 0] 112)) (Below.heap_alloc _ _ _ HZ3.out.lt)
 have hN5 := HN3.out.keep (W' := w2.alloc (.cells #[.slice p1 n1 c1, .int .i64 s.size, .int .i64 0] 112)) (Below.heap_alloc _ _ _ HN3.out.lt)
 have hN6 := HN4.out.keep (W' := w2.alloc (.cells #[.slice p1 n1 c1, .int .i64 s.size, .int .i64 0] 112)) (Below.heap_alloc _ _ _ HN4.out.lt)
 have hB5 := HB2.out.alloc HB2.out.size (.cells #[.slice p1 n1 c1, .int .i64 s.size, .int .i64 0] 112)
 have hlt5 : w.heap.size + 2 < w2.heap.size := HN4.out.lt
 obtain ⟨g, hg⟩ : ∃ g, w2.heap.size = g := ⟨_, rfl⟩
 obtain ⟨w3, hw3⟩ : ∃ W, w2.alloc (.cells #[.slice p1 n1 c1, .int .i64 s.size, .int .i64 0] 112) = W := ⟨_, rfl⟩
 rw [hw3, hg] at hR5
 rw [hw3] at hZ5 hN5 hN6 hB5
 rw [hg] at hlt5
 try rw [hw3]
 try rw [hg]
 have HR5 := Lib.hid hR5
 have HZ5 := Lib.hid hZ5
 have HN5 := Lib.hid hN5
 have HN6 := Lib.hid hN6
 have HB5 := Lib.hid hB5
 clear hw3 hg hR5 hZ5 hN5 hN6 hB5 HO2 HN3 HN4 HZ3 HB2 a2
 obtain ⟨tk, tn, tS, tp⟩ := t
 dsimp only [Tok.val, NxtRet] at *
 go_upto_region 7 with (first
  | (go_at_call 79; refine (HNX.out _ _ _ HR5.out).mono ?_; rintro e w4 ⟨rfl, hr4, hg4⟩)
  | (go_at_call 78; refine (HVA.out _ _ _ hr4).mono ?_; rintro e w5 ⟨rv, rfl, ht5, hr5, hg5⟩; obtain ⟨vk, vn, vs, vpl, vnl, vcl, vpm, vnm, vcm⟩ := rv; (have hg45 := hg4.trans hg5); (have hZ6 := HZ5.out.keep (hg45.block _ HZ5.out.lt (by simp; omega))); (obtain ⟨z0, z1, z2, z3, z4⟩ := hZ6.cells5); (have y0 := hZ6.frozen 0); (have y1 := hZ6.frozen 1); (have y2 := hZ6.frozen 2); (have y3 := hZ6.frozen 3); (have y4 := hZ6.frozen 4)))
 have hv6 := hZ6.stored ⟨vk, vn, vs, vpl, vnl, vcl, vpm, vnm, vcm⟩
 have hg6 := grownBy_set5 w5 w.heap.size ⟨vk, vn, vs, vpl, vnl, vcl, vpm, vnm, vcm⟩
 have hlt4 := HN6.out.lt
 have hN7 := ((HN5.out.keep (hg45.block _ HN5.out.lt (by simp; omega)))).keep (hg6.block (w.heap.size + 1) (Nat.lt_of_lt_of_le HN5.out.lt hg45.size) (by simp))
 have hN8 := ((HN6.out.keep (hg45.block _ HN6.out.lt (by simp; omega)))).keep (hg6.block (w.heap.size + 1 + 1) (Nat.lt_of_lt_of_le HN6.out.lt hg45.size) (by simp; omega))
 have hr6 : ∃ p c, (((((w5.setCell ⟨w.heap.size, 0, none⟩ (.int .i64 (⟨vk, vn, vs, vpl, vnl, vcl, vpm, vnm, vcm⟩ : RV).k)).setCell ⟨w.heap.size, 1, none⟩ (.int .i64 (⟨vk, vn, vs, vpl, vnl, vcl, vpm, vnm, vcm⟩ : RV).n)).setCell ⟨w.heap.size, 2, none⟩ (.string (⟨vk, vn, vs, vpl, vnl, vcl, vpm, vnm, vcm⟩ : RV).s)).setCell ⟨w.heap.size, 3, none⟩ (.slice (⟨vk, vn, vs, vpl, vnl, vcl, vpm, vnm, vcm⟩ : RV).pl (⟨vk, vn, vs, vpl, vnl, vcl, vpm, vnm, vcm⟩ : RV).nl (⟨vk, vn, vs, vpl, vnl, vcl, vpm, vnm, vcm⟩ : RV).cl)).setCell ⟨w.heap.size, 4, none⟩ (.slice (⟨vk, vn, vs, vpl, vnl, vcl, vpm, vnm, vcm⟩ : RV).pm (⟨vk, vn, vs, vpl, vnl, vcl, vpm, vnm, vcm⟩ : RV).nm (⟨vk, vn, vs, vpl, vnl, vcl, vpm, vnm, vcm⟩ : RV).cm)).cell? ⟨g, 0, none⟩ = some (.slice p 0 c) := by
  obtain ⟨p, n, c, h1, h2⟩ := hr5.ex
  have hn := rd_nlen h2
  have h3 := h1.keep (hg6.block g h1.lt (by simp; omega))
  have h4 := h3.cell 0 rfl
  rw [hn] at h4
  exact ⟨p, c, h4⟩
 have ht6 := ht5.same (fun k hk => hg6.block k hk.2 (fun e => by cases e; have := hk.1; have := hg4.size; omega))
 have hb6 : Below w.heap.size w (((((w5.setCell ⟨w.heap.size, 0, none⟩ (.int .i64 (⟨vk, vn, vs, vpl, vnl, vcl, vpm, vnm, vcm⟩ : RV).k)).setCell ⟨w.heap.size, 1, none⟩ (.int .i64 (⟨vk, vn, vs, vpl, vnl, vcl, vpm, vnm, vcm⟩ : RV).n)).setCell ⟨w.heap.size, 2, none⟩ (.string (⟨vk, vn, vs, vpl, vnl, vcl, vpm, vnm, vcm⟩ : RV).s)).setCell ⟨w.heap.size, 3, none⟩ (.slice (⟨vk, vn, vs, vpl, vnl, vcl, vpm, vnm, vcm⟩ : RV).pl (⟨vk, vn, vs, vpl, vnl, vcl, vpm, vnm, vcm⟩ : RV).nl (⟨vk, vn, vs, vpl, vnl, vcl, vpm, vnm, vcm⟩ : RV).cl)).setCell ⟨w.heap.size, 4, none⟩ (.slice (⟨vk, vn, vs, vpl, vnl, vcl, vpm, vnm, vcm⟩ : RV).pm (⟨vk, vn, vs, vpl, vnl, vcl, vpm, vnm, vcm⟩ : RV).nm (⟨vk, vn, vs, vpl, vnl, vcl, vpm, vnm, vcm⟩ : RV).cm)) := (HB5.out.grown hg45 (by omega) (fun k e => by cases e; omega)).grown hg6 (by have := hg45.size; omega) (fun k e => by cases e; omega)
 have hz6 : (((((w5.setCell ⟨w.heap.size, 0, none⟩ (.int .i64 (⟨vk, vn, vs, vpl, vnl, vcl, vpm, vnm, vcm⟩ : RV).k)).setCell ⟨w.heap.size, 1, none⟩ (.int .i64 (⟨vk, vn, vs, vpl, vnl, vcl, vpm, vnm, vcm⟩ : RV).n)).setCell ⟨w.heap.size, 2, none⟩ (.string (⟨vk, vn, vs, vpl, vnl, vcl, vpm, vnm, vcm⟩ : RV).s)).setCell ⟨w.heap.size, 3, none⟩ (.slice (⟨vk, vn, vs, vpl, vnl, vcl, vpm, vnm, vcm⟩ : RV).pl (⟨vk, vn, vs, vpl, vnl, vcl, vpm, vnm, vcm⟩ : RV).nl (⟨vk, vn, vs, vpl, vnl, vcl, vpm, vnm, vcm⟩ : RV).cl)).setCell ⟨w.heap.size, 4, none⟩ (.slice (⟨vk, vn, vs, vpl, vnl, vcl, vpm, vnm, vcm⟩ : RV).pm (⟨vk, vn, vs, vpl, vnl, vcl, vpm, vnm, vcm⟩ : RV).nm (⟨vk, vn, vs, vpl, vnl, vcl, vpm, vnm, vcm⟩ : RV).cm)).heap.size = w5.heap.size := by simp
 dsimp only at hv6 hr6 hb6 hN7 hN8 ht6 hz6
 obtain ⟨w6, hw6⟩ : ∃ W, (((((w5.setCell ⟨w.heap.size, 0, none⟩ (.int .i64 (⟨vk, vn, vs, vpl, vnl, vcl, vpm, vnm, vcm⟩ : RV).k)).setCell ⟨w.heap.size, 1, none⟩ (.int .i64 (⟨vk, vn, vs, vpl, vnl, vcl, vpm, vnm, vcm⟩ : RV).n)).setCell ⟨w.heap.size, 2, none⟩ (.string (⟨vk, vn, vs, vpl, vnl, vcl, vpm, vnm, vcm⟩ : RV).s)).setCell ⟨w.heap.size, 3, none⟩ (.slice (⟨vk, vn, vs, vpl, vnl, vcl, vpm, vnm, vcm⟩ : RV).pl (⟨vk, vn, vs, vpl, vnl, vcl, vpm, vnm, vcm⟩ : RV).nl (⟨vk, vn, vs, vpl, vnl, vcl, vpm, vnm, vcm⟩ : RV).cl)).setCell ⟨w.heap.size, 4, none⟩ (.slice (⟨vk, vn, vs, vpl, vnl, vcl, vpm, vnm, vcm⟩ : RV).pm (⟨vk, vn, vs, vpl, vnl, vcl, vpm, vnm, vcm⟩ : RV).nm (⟨vk, vn, vs, vpl, vnl, vcl, vpm, vnm, vcm⟩ : RV).cm)) = W := ⟨_, rfl⟩
 dsimp only at hw6
 rw [hw6] at hv6 hr6 hb6 hN7 hN8 ht6 hz6
 try rw [hw6]
 clear z0 z1 z2 z3 z4 y0 y1 y2 y3 y4 hw6
 obtain ⟨p6, c6, c0⟩ := hr6
 obtain ⟨v0, v1, v2, v3, v4⟩ := hv6.cells5
 have y0 := hv6.frozen 0
 have y1 := hv6.frozen 1
 have y2 := hv6.frozen 2
 have y3 := hv6.frozen 3
 have y4 := hv6.frozen 4
 have x1 := hN7.cell
 have x2 := hN8.cell
 have y11 := hN7.frozen
 have y12 := hN8.frozen
 dsimp only at v0 v1 v2 v3 v4
 have hg7 := grownBy_set5 w6 w.heap.size (⟨vk, vn, vs, vpl, vnl, vcl, vpm, vnm, vcm⟩ : RV)
 have hg8 := grownBy_set (((((w6.setCell ⟨w.heap.size, 0, none⟩ (.int .i64 (⟨vk, vn, vs, vpl, vnl, vcl, vpm, vnm, vcm⟩ : RV).k)).setCell ⟨w.heap.size, 1, none⟩ (.int .i64 (⟨vk, vn, vs, vpl, vnl, vcl, vpm, vnm, vcm⟩ : RV).n)).setCell ⟨w.heap.size, 2, none⟩ (.string (⟨vk, vn, vs, vpl, vnl, vcl, vpm, vnm, vcm⟩ : RV).s)).setCell ⟨w.heap.size, 3, none⟩ (.slice (⟨vk, vn, vs, vpl, vnl, vcl, vpm, vnm, vcm⟩ : RV).pl (⟨vk, vn, vs, vpl, vnl, vcl, vpm, vnm, vcm⟩ : RV).nl (⟨vk, vn, vs, vpl, vnl, vcl, vpm, vnm, vcm⟩ : RV).cl)).setCell ⟨w.heap.size, 4, none⟩ (.slice (⟨vk, vn, vs, vpl, vnl, vcl, vpm, vnm, vcm⟩ : RV).pm (⟨vk, vn, vs, vpl, vnl, vcl, vpm, vnm, vcm⟩ : RV).nm (⟨vk, vn, vs, vpl, vnl, vcl, vpm, vnm, vcm⟩ : RV).cm)) (w.heap.size + 1) 0 (.int .i64 0)
 have hg9 := grownBy_set ((((((w6.setCell ⟨w.heap.size, 0, none⟩ (.int .i64 (⟨vk, vn, vs, vpl, vnl, vcl, vpm, vnm, vcm⟩ : RV).k)).setCell ⟨w.heap.size, 1, none⟩ (.int .i64 (⟨vk, vn, vs, vpl, vnl, vcl, vpm, vnm, vcm⟩ : RV).n)).setCell ⟨w.heap.size, 2, none⟩ (.string (⟨vk, vn, vs, vpl, vnl, vcl, vpm, vnm, vcm⟩ : RV).s)).setCell ⟨w.heap.size, 3, none⟩ (.slice (⟨vk, vn, vs, vpl, vnl, vcl, vpm, vnm, vcm⟩ : RV).pl (⟨vk, vn, vs, vpl, vnl, vcl, vpm, vnm, vcm⟩ : RV).nl (⟨vk, vn, vs, vpl, vnl, vcl, vpm, vnm, vcm⟩ : RV).cl)).setCell ⟨w.heap.size, 4, none⟩ (.slice (⟨vk, vn, vs, vpl, vnl, vcl, vpm, vnm, vcm⟩ : RV).pm (⟨vk, vn, vs, vpl, vnl, vcl, vpm, vnm, vcm⟩ : RV).nm (⟨vk, vn, vs, vpl, vnl, vcl, vpm, vnm, vcm⟩ : RV).cm)).setCell ⟨w.heap.size + 1, 0, none⟩ (.int .i64 0)) (w.heap.size + 1 + 1) 0 (.int .i64 0)
 have hv7 := ((hv6.stored (⟨vk, vn, vs, vpl, vnl, vcl, vpm, vnm, vcm⟩ : RV)).keep (hg8.block _ (hv6.stored (⟨vk, vn, vs, vpl, vnl, vcl, vpm, vnm, vcm⟩ : RV)).lt (by simp)))
 have hv9 := hv7.keep (hg9.block _ hv7.lt (by simp; omega))
 have hN9 := (((hN7.keep (hg7.block _ hN7.lt (by simp))).set 0))
 have hN9' := hN9.keep (hg9.block _ hN9.lt (by simp))
 have hN10 := ((hN8.keep (hg7.block _ hN8.lt (by simp; omega))).keep (hg8.block _ (hN8.keep (hg7.block _ hN8.lt (by simp; omega))).lt (by simp))).set 0
 have hb9 : Below w.heap.size w (((((((w6.setCell ⟨w.heap.size, 0, none⟩ (.int .i64 (⟨vk, vn, vs, vpl, vnl, vcl, vpm, vnm, vcm⟩ : RV).k)).setCell ⟨w.heap.size, 1, none⟩ (.int .i64 (⟨vk, vn, vs, vpl, vnl, vcl, vpm, vnm, vcm⟩ : RV).n)).setCell ⟨w.heap.size, 2, none⟩ (.string (⟨vk, vn, vs, vpl, vnl, vcl, vpm, vnm, vcm⟩ : RV).s)).setCell ⟨w.heap.size, 3, none⟩ (.slice (⟨vk, vn, vs, vpl, vnl, vcl, vpm, vnm, vcm⟩ : RV).pl (⟨vk, vn, vs, vpl, vnl, vcl, vpm, vnm, vcm⟩ : RV).nl (⟨vk, vn, vs, vpl, vnl, vcl, vpm, vnm, vcm⟩ : RV).cl)).setCell ⟨w.heap.size, 4, none⟩ (.slice (⟨vk, vn, vs, vpl, vnl, vcl, vpm, vnm, vcm⟩ : RV).pm (⟨vk, vn, vs, vpl, vnl, vcl, vpm, vnm, vcm⟩ : RV).nm (⟨vk, vn, vs, vpl, vnl, vcl, vpm, vnm, vcm⟩ : RV).cm)).setCell ⟨w.heap.size + 1, 0, none⟩ (.int .i64 0)).setCell ⟨w.heap.size + 1 + 1, 0, none⟩ (.int .i64 0)) := ((hb6.grown hg7 (by have := hb6.size; omega) (fun k e => by cases e; exact Nat.le_refl _)).grown hg8 (by have := hb6.size; simp; omega) (fun k e => by cases e; omega)).grown hg9 (by have := hb6.size; simp; omega) (fun k e => by cases e; omega)
 have hsz : w6.heap.size <= (((((((w6.setCell ⟨w.heap.size, 0, none⟩ (.int .i64 (⟨vk, vn, vs, vpl, vnl, vcl, vpm, vnm, vcm⟩ : RV).k)).setCell ⟨w.heap.size, 1, none⟩ (.int .i64 (⟨vk, vn, vs, vpl, vnl, vcl, vpm, vnm, vcm⟩ : RV).n)).setCell ⟨w.heap.size, 2, none⟩ (.string (⟨vk, vn, vs, vpl, vnl, vcl, vpm, vnm, vcm⟩ : RV).s)).setCell ⟨w.heap.size, 3, none⟩ (.slice (⟨vk, vn, vs, vpl, vnl, vcl, vpm, vnm, vcm⟩ : RV).pl (⟨vk, vn, vs, vpl, vnl, vcl, vpm, vnm, vcm⟩ : RV).nl (⟨vk, vn, vs, vpl, vnl, vcl, vpm, vnm, vcm⟩ : RV).cl)).setCell ⟨w.heap.size, 4, none⟩ (.slice (⟨vk, vn, vs, vpl, vnl, vcl, vpm, vnm, vcm⟩ : RV).pm (⟨vk, vn, vs, vpl, vnl, vcl, vpm, vnm, vcm⟩ : RV).nm (⟨vk, vn, vs, vpl, vnl, vcl, vpm, vnm, vcm⟩ : RV).cm)).setCell ⟨w.heap.size + 1, 0, none⟩ (.int .i64 0)).setCell ⟨w.heap.size + 1 + 1, 0, none⟩ (.int .i64 0)).heap.size := by simp
 have hgn := hg4.size
 have ht9 := ht6.same (w' := (((((((w6.setCell ⟨w.heap.size, 0, none⟩ (.int .i64 (⟨vk, vn, vs, vpl, vnl, vcl, vpm, vnm, vcm⟩ : RV).k)).setCell ⟨w.heap.size, 1, none⟩ (.int .i64 (⟨vk, vn, vs, vpl, vnl, vcl, vpm, vnm, vcm⟩ : RV).n)).setCell ⟨w.heap.size, 2, none⟩ (.string (⟨vk, vn, vs, vpl, vnl, vcl, vpm, vnm, vcm⟩ : RV).s)).setCell ⟨w.heap.size, 3, none⟩ (.slice (⟨vk, vn, vs, vpl, vnl, vcl, vpm, vnm, vcm⟩ : RV).pl (⟨vk, vn, vs, vpl, vnl, vcl, vpm, vnm, vcm⟩ : RV).nl (⟨vk, vn, vs, vpl, vnl, vcl, vpm, vnm, vcm⟩ : RV).cl)).setCell ⟨w.heap.size, 4, none⟩ (.slice (⟨vk, vn, vs, vpl, vnl, vcl, vpm, vnm, vcm⟩ : RV).pm (⟨vk, vn, vs, vpl, vnl, vcl, vpm, vnm, vcm⟩ : RV).nm (⟨vk, vn, vs, vpl, vnl, vcl, vpm, vnm, vcm⟩ : RV).cm)).setCell ⟨w.heap.size + 1, 0, none⟩ (.int .i64 0)).setCell ⟨w.heap.size + 1 + 1, 0, none⟩ (.int .i64 0))) (fun k hk => by
  have := hk.1
  have := hk.2
  exact ((hg9.block k (by simp; omega) (fun e => by cases e; omega)).trans (hg8.block k (by simp; omega) (fun e => by cases e; omega))).trans (hg7.block k (by omega) (fun e => by cases e; omega)))
 have hto : TreeOf (((((((w6.setCell ⟨w.heap.size, 0, none⟩ (.int .i64 (⟨vk, vn, vs, vpl, vnl, vcl, vpm, vnm, vcm⟩ : RV).k)).setCell ⟨w.heap.size, 1, none⟩ (.int .i64 (⟨vk, vn, vs, vpl, vnl, vcl, vpm, vnm, vcm⟩ : RV).n)).setCell ⟨w.heap.size, 2, none⟩ (.string (⟨vk, vn, vs, vpl, vnl, vcl, vpm, vnm, vcm⟩ : RV).s)).setCell ⟨w.heap.size, 3, none⟩ (.slice (⟨vk, vn, vs, vpl, vnl, vcl, vpm, vnm, vcm⟩ : RV).pl (⟨vk, vn, vs, vpl, vnl, vcl, vpm, vnm, vcm⟩ : RV).nl (⟨vk, vn, vs, vpl, vnl, vcl, vpm, vnm, vcm⟩ : RV).cl)).setCell ⟨w.heap.size, 4, none⟩ (.slice (⟨vk, vn, vs, vpl, vnl, vcl, vpm, vnm, vcm⟩ : RV).pm (⟨vk, vn, vs, vpl, vnl, vcl, vpm, vnm, vcm⟩ : RV).nm (⟨vk, vn, vs, vpl, vnl, vcl, vpm, vnm, vcm⟩ : RV).cm)).setCell ⟨w.heap.size + 1, 0, none⟩ (.int .i64 0)).setCell ⟨w.heap.size + 1 + 1, 0, none⟩ (.int .i64 0)) (((((((w6.setCell ⟨w.heap.size, 0, none⟩ (.int .i64 (⟨vk, vn, vs, vpl, vnl, vcl, vpm, vnm, vcm⟩ : RV).k)).setCell ⟨w.heap.size, 1, none⟩ (.int .i64 (⟨vk, vn, vs, vpl, vnl, vcl, vpm, vnm, vcm⟩ : RV).n)).setCell ⟨w.heap.size, 2, none⟩ (.string (⟨vk, vn, vs, vpl, vnl, vcl, vpm, vnm, vcm⟩ : RV).s)).setCell ⟨w.heap.size, 3, none⟩ (.slice (⟨vk, vn, vs, vpl, vnl, vcl, vpm, vnm, vcm⟩ : RV).pl (⟨vk, vn, vs, vpl, vnl, vcl, vpm, vnm, vcm⟩ : RV).nl (⟨vk, vn, vs, vpl, vnl, vcl, vpm, vnm, vcm⟩ : RV).cl)).setCell ⟨w.heap.size, 4, none⟩ (.slice (⟨vk, vn, vs, vpl, vnl, vcl, vpm, vnm, vcm⟩ : RV).pm (⟨vk, vn, vs, vpl, vnl, vcl, vpm, vnm, vcm⟩ : RV).nm (⟨vk, vn, vs, vpl, vnl, vcl, vpm, vnm, vcm⟩ : RV).cm)).setCell ⟨w.heap.size + 1, 0, none⟩ (.int .i64 0)).setCell ⟨w.heap.size + 1 + 1, 0, none⟩ (.int .i64 0)).heap.size v (⟨vk, vn, vs, vpl, vnl, vcl, vpm, vnm, vcm⟩ : RV) := ht9.tree (fun k hk => Nat.lt_of_lt_of_le (by have := hk.2; omega) hsz)
 have hts : TreeS (((((((w6.setCell ⟨w.heap.size, 0, none⟩ (.int .i64 (⟨vk, vn, vs, vpl, vnl, vcl, vpm, vnm, vcm⟩ : RV).k)).setCell ⟨w.heap.size, 1, none⟩ (.int .i64 (⟨vk, vn, vs, vpl, vnl, vcl, vpm, vnm, vcm⟩ : RV).n)).setCell ⟨w.heap.size, 2, none⟩ (.string (⟨vk, vn, vs, vpl, vnl, vcl, vpm, vnm, vcm⟩ : RV).s)).setCell ⟨w.heap.size, 3, none⟩ (.slice (⟨vk, vn, vs, vpl, vnl, vcl, vpm, vnm, vcm⟩ : RV).pl (⟨vk, vn, vs, vpl, vnl, vcl, vpm, vnm, vcm⟩ : RV).nl (⟨vk, vn, vs, vpl, vnl, vcl, vpm, vnm, vcm⟩ : RV).cl)).setCell ⟨w.heap.size, 4, none⟩ (.slice (⟨vk, vn, vs, vpl, vnl, vcl, vpm, vnm, vcm⟩ : RV).pm (⟨vk, vn, vs, vpl, vnl, vcl, vpm, vnm, vcm⟩ : RV).nm (⟨vk, vn, vs, vpl, vnl, vcl, vpm, vnm, vcm⟩ : RV).cm)).setCell ⟨w.heap.size + 1, 0, none⟩ (.int .i64 0)).setCell ⟨w.heap.size + 1 + 1, 0, none⟩ (.int .i64 0)) (fun k => w.heap.size <= k /\ k < (((((((w6.setCell ⟨w.heap.size, 0, none⟩ (.int .i64 (⟨vk, vn, vs, vpl, vnl, vcl, vpm, vnm, vcm⟩ : RV).k)).setCell ⟨w.heap.size, 1, none⟩ (.int .i64 (⟨vk, vn, vs, vpl, vnl, vcl, vpm, vnm, vcm⟩ : RV).n)).setCell ⟨w.heap.size, 2, none⟩ (.string (⟨vk, vn, vs, vpl, vnl, vcl, vpm, vnm, vcm⟩ : RV).s)).setCell ⟨w.heap.size, 3, none⟩ (.slice (⟨vk, vn, vs, vpl, vnl, vcl, vpm, vnm, vcm⟩ : RV).pl (⟨vk, vn, vs, vpl, vnl, vcl, vpm, vnm, vcm⟩ : RV).nl (⟨vk, vn, vs, vpl, vnl, vcl, vpm, vnm, vcm⟩ : RV).cl)).setCell ⟨w.heap.size, 4, none⟩ (.slice (⟨vk, vn, vs, vpl, vnl, vcl, vpm, vnm, vcm⟩ : RV).pm (⟨vk, vn, vs, vpl, vnl, vcl, vpm, vnm, vcm⟩ : RV).nm (⟨vk, vn, vs, vpl, vnl, vcl, vpm, vnm, vcm⟩ : RV).cm)).setCell ⟨w.heap.size + 1, 0, none⟩ (.int .i64 0)).setCell ⟨w.heap.size + 1 + 1, 0, none⟩ (.int .i64 0)).heap.size) v (⟨vk, vn, vs, vpl, vnl, vcl, vpm, vnm, vcm⟩ : RV) := ht9.mono (fun k hk => ⟨by have := hk.1; omega, Nat.lt_of_lt_of_le (by have := hk.2; omega) hsz⟩)
 have HTO := Lib.hid hts
 have HB9 := Lib.hid hb9
 have HV9 := Lib.hid hv9
 have HN9 := Lib.hid hN9'
 have HN10 := Lib.hid hN10
 dsimp only at HTO HB9 HV9 HN9 HN10
 clear hto hts hb9 hv9 hN9 hN9' hN10 hg7 hg8 hg9 hv7 hsz hgn ht9 ht6 hb6 hv6 hN7 hN8 hg4 hg5 hg45 hg6 ht5 hr5 hr4
 go_wp2_with fail
 refine leaves_cons (f := 77) (args := #[.pointer (some ⟨w.heap.size, 0, none⟩), .pointer (some ⟨w.heap.size + 1, 0, none⟩), .pointer (some ⟨w.heap.size + 1 + 1, 0, none⟩)]) (by simp) (by simp [go_sem]) ?_
 refine (readCatch_idle _ _ _ _).mono ?_
 rintro e u' w'' ⟨rfl, rfl, rfl⟩
 obtain ⟨W9, hW9⟩ : ∃ W, ((((((w6.setCell ⟨w.heap.size, 0, none⟩ (.int .i64 vk)).setCell ⟨w.heap.size, 1, none⟩ (.int .i64 vn)).setCell ⟨w.heap.size, 2, none⟩ (.string vs)).setCell ⟨w.heap.size, 3, none⟩ (.slice vpl vnl vcl)).setCell ⟨w.heap.size, 4, none⟩ (.slice vpm vnm vcm)).setCell ⟨w.heap.size + 1, 0, none⟩ (.int .i64 0)).setCell ⟨w.heap.size + 1 + 1, 0, none⟩ (.int .i64 0) = W := ⟨_, rfl⟩
 rw [hW9] at HTO HB9 HV9 HN9 HN10
 rw [hW9]
 clear hW9 v0 v1 v2 v3 v4 y0 y1 y2 y3 y4 x1 x2 y11 y12 c0
 obtain ⟨u0, u1, u2, u3, u4⟩ := HV9.out.cells5
 dsimp only at u0 u1 u2 u3 u4
 have x1 := HN9.out.cell
 have x2 := HN10.out.cell
 have HR : ReadRetS w v (.returned (.tuple #[RV.val (⟨vk, vn, vs, vpl, vnl, vcl, vpm, vnm, vcm⟩ : RV), .int .i64 0, .int .i64 0])) W9 := ⟨_, rfl, HTO.out, HB9.out⟩
 simp only [RV.val] at HR
 simp [Leaves, settle, results, Tryz.results38, go_sem, u0, u1, u2, u3, u4, x1, x2]
 exact HR
theorem read_any (w : World) (s : ByteArray) (v : JV) (hs : s.size <= 65536) (hv : readF s = some v) : Calls Tryz.prog 38 #[.string s] w (ReadRet w v) :=
 (readS_any w s v hs hv).mono (fun e w' h => by
  obtain ⟨r, h1, h2, h3⟩ := h
  exact ⟨r, h1, h2.tree (fun k hk => hk.2), h3⟩)
end
section
open Go
def gvN : ByteArray := ⟨#[103, 105, 118, 101, 110]⟩
def mt : ByteArray := ⟨#[]⟩
def tJ (x : ByteArray) : JV := .mk 4 0 x [] []
theorem jvok0 {k : Int} (h : (Lit.int .i64 k).wf = true) {s : ByteArray} (hs : s.size <= 140737488351232) : (JV.mk k 0 s [] []).Ok := .mk h (by decide) hs (by simp) (by simp) (fun i x hx => by simp at hx) (fun i p hp => by simp at hp) (fun i p hp => by simp at hp)
theorem jvokL {l : List JV} (h : ∀ x ∈ l, x.Ok) (hl : l.length <= 1000) : (JV.mk 5 0 mt l []).Ok := .mk (by decide) (by decide) (by decide) (by omega) (by simp) (fun i x hx => h x (List.mem_of_getElem? hx)) (fun i p hp => by simp at hp) (fun i p hp => by simp at hp)
theorem jvokM {m : List (ByteArray × JV)} (h : ∀ p ∈ m, p.1.size <= 1000 /\ p.2.Ok) (hl : m.length <= 1000) : (JV.mk 6 0 mt [] m).Ok := .mk (by decide) (by decide) (by decide) (by simp) (by omega) (fun i x hx => by simp at hx) (fun i p hp => Nat.le_trans (h p (List.mem_of_getElem? hp)).1 (by omega)) (fun i p hp => (h p (List.mem_of_getElem? hp)).2)
theorem tJ_ok {x : ByteArray} (hs : x.size <= 1000) : (tJ x).Ok := jvok0 (by decide) (by omega)
def tx20f : ByteArray := ⟨#[123, 34, 111, 112, 101, 114, 97, 116, 111, 114, 34, 58, 34, 78, 79, 84, 34, 44, 34, 99, 111, 110, 100, 105, 116, 105, 111, 110, 115, 34, 58, 91, 123, 34, 107, 105, 110, 100, 34, 58, 34, 103, 114, 111, 117, 112, 34, 125, 93, 125]⟩
def tx20g : ByteArray := ⟨#[123, 34, 99, 111, 108, 111, 114, 34, 58, 34, 114, 101, 100, 34, 125]⟩
def tx20h : ByteArray := ⟨#[123, 34, 105, 110, 65, 100, 100, 114, 101, 115, 115, 66, 111, 111, 107, 34, 58, 53, 125]⟩
def tx20v : ByteArray := ⟨#[123, 34, 117, 105, 100, 34, 58, 34, 117, 34, 44, 34, 110, 97, 109, 101, 34, 58, 123, 34, 102, 117, 108, 108, 34, 58, 34, 65, 100, 97, 34, 44, 34, 99, 111, 109, 112, 111, 110, 101, 110, 116, 115, 34, 58, 91, 123, 34, 107, 105, 110, 100, 34, 58, 34, 103, 105, 118, 101, 110, 34, 44, 34, 118, 97, 108, 117, 101, 34, 58, 34, 65, 34, 125, 93, 125, 125]⟩
def f20J : JV := .mk 6 0 mt [] [(svOper, tJ svNot), (svConds, .mk 5 0 mt [.mk 6 0 mt [] [(kindN, tJ (⟨#[103, 114, 111, 117, 112]⟩))]] [])]
def g20J : JV := .mk 6 0 mt [] [(⟨#[99, 111, 108, 111, 114]⟩, tJ (⟨#[114, 101, 100]⟩))]
def h20J : JV := .mk 6 0 mt [] [(svInBook, .mk 3 5 mt [] [])]
def v20J : JV := .mk 6 0 mt [] [(svUid, tJ (⟨#[117]⟩)), (nameN, .mk 6 0 mt [] [(⟨#[102, 117, 108, 108]⟩, tJ (⟨#[65, 100, 97]⟩)), (compN, .mk 5 0 mt [.mk 6 0 mt [] [(kindN, tJ gvN), (valueN, tJ (⟨#[65]⟩))]] [])])]
def n20J : JV := .mk 1 0 mt [] []
theorem read20_f : readF tx20f = some f20J := by kernel_rfl
theorem read20_g : readF tx20g = some g20J := by kernel_rfl
theorem read20_h : readF tx20h = some h20J := by kernel_rfl
theorem read20_v : readF tx20v = some v20J := by kernel_rfl
theorem aw20_1 : holdsJ f20J v20J = true := by kernel_rfl
theorem aw20_2 : checkJ g20J = 200 := by kernel_rfl
theorem aw20_3 : checkJ h20J = 1 := by kernel_rfl
theorem aw20_4 : textsJ v20J svText = [⟨#[65, 100, 97]⟩, ⟨#[65]⟩] := by kernel_rfl
theorem aw20_5 : holdsJ n20J v20J = true := by kernel_rfl
theorem aw20_c : countT f20J <= 100000 /\ countT g20J <= 100000 /\ countT h20J <= 100000 /\ countT v20J <= 100000 /\ sizeT v20J <= 4000000000 /\ countT n20J <= 100000 := by decide +kernel
theorem g20_ok : g20J.Ok := jvokM (fun p hp => by
 rw [List.mem_singleton] at hp
 subst hp
 exact ⟨by decide, tJ_ok (by decide)⟩) (by decide)
theorem h20_ok : h20J.Ok := jvokM (fun p hp => by
 rw [List.mem_singleton] at hp
 subst hp
 exact ⟨by decide, .mk (by decide) (by decide) (by decide) (by simp) (by simp) (fun i x hx => by simp at hx) (fun i p hp => by simp at hp) (fun i p hp => by simp at hp)⟩) (by decide)
theorem n20_ok : n20J.Ok := jvok0 (by decide) (by decide)
theorem f20_ok : f20J.Ok := by
 refine jvokM (fun p hp => ?_) (by decide)
 rcases List.mem_cons.1 hp with rfl | hp
 ·exact ⟨by decide, tJ_ok (by decide)⟩
 rw [List.mem_singleton] at hp
 subst hp
 refine ⟨show svConds.size <= 1000 by decide, jvokL (fun y hy => ?_) (by decide)⟩
 rw [List.mem_singleton] at hy
 subst hy
 refine jvokM (fun p hp => ?_) (by decide)
 rw [List.mem_singleton] at hp
 subst hp
 exact ⟨by decide, tJ_ok (by decide)⟩
theorem v20_ok : v20J.Ok := by
 refine jvokM (fun p hp => ?_) (by decide)
 rcases List.mem_cons.1 hp with rfl | hp
 ·exact ⟨by decide, tJ_ok (by decide)⟩
 rw [List.mem_singleton] at hp
 subst hp
 refine ⟨show nameN.size <= 1000 by decide, jvokM (fun p hp => ?_) (by decide)⟩
 rcases List.mem_cons.1 hp with rfl | hp
 ·exact ⟨by decide, tJ_ok (by decide)⟩
 rw [List.mem_singleton] at hp
 subst hp
 refine ⟨show compN.size <= 1000 by decide, jvokL (fun y hy => ?_) (by decide)⟩
 rw [List.mem_singleton] at hy
 subst hy
 refine jvokM (fun p hp => ?_) (by decide)
 rcases List.mem_cons.1 hp with rfl | hp
 ·exact ⟨by decide, tJ_ok (by decide)⟩
 ·rw [List.mem_singleton] at hp
  subst hp
  exact ⟨by decide, tJ_ok (by decide)⟩
end
end Go.Proofs.YtffhccmppdgmfaaGreatDoor
