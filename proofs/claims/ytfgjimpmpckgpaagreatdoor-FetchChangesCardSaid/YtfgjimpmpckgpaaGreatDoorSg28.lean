import Derived.Test.YtfgjimpmpckgpaaGreatDoorSg27
import Derived.BigQuiet
set_option linter.unusedSimpArgs false
set_option linter.unusedVariables false
set_option maxRecDepth 200000
set_option maxHeartbeats 8000000
namespace Go.Proofs.YtfgjimpmpckgpaaGreatDoor
section
open Go Go.RowKit Go.OpenShut
theorem part_any (c : UInt8) (w : World) : Calls Tryz.prog 173 #[.int .u8 c.toNat] w fun e w' => e = .returned (.bool (partCh c)) /\ w' = w := by
 have h0 : (0 : Int) <= (c.toNat : Int) := Int.natCast_nonneg _
 by_cases a1 : 97 <= c.toNat <;> by_cases a2 : c.toNat <= 122 <;> by_cases a3 : 65 <= c.toNat <;> by_cases a4 : c.toNat <= 90 <;> by_cases a5 : 48 <= c.toNat <;> by_cases a6 : c.toNat <= 57 <;> by_cases a7 : c.toNat = 95
 all_goals first | (exfalso; omega) | skip
 all_goals
  have hp : Hid (partCh c = (decide (97 <= c.toNat) && decide (c.toNat <= 122) || decide (65 <= c.toNat) && decide (c.toNat <= 90) || decide (48 <= c.toNat) && decide (c.toNat <= 57) || decide (c.toNat = 95))) := rfl
  go_enter Tryz.func173, Tryz.ntmps173
  go_wp2_with fail
  go_ret
  refine ⟨?_, rfl⟩
  rw [hp.out]
  simp [a1, a2, a3, a4, a5, a6, a7] <;> omega
theorem ext_all (s : ByteArray) (i : Nat) : (s.extract i s.size).data.toList = s.data.toList.drop i := by
 rw [ext_list]
 exact List.take_of_length_le (by rw [List.length_drop, str_len]; omega)
theorem ScS.now {w W : World} {g i : Nat} {s : ByteArray} {l : List Tok} (h : ScS w W g s i l) (n : Nat) : ScS (W.drewN n) (W.drewN n) g s i l := by
 obtain ⟨v, h1, h2⟩ := h.ex
 exact ⟨⟨v, h1, h2.same (fun _ _ => rfl)⟩, Below.refl _ _⟩
theorem word_split {s wd : ByteArray} {i : Nat} (h : wordAt s i wd = true) : ∃ r, s.data.toList.drop i = wd.data.toList ++ r := by
 unfold wordAt at h
 rw [Bool.and_eq_true, decide_eq_true_eq] at h
 refine ⟨(s.data.toList.drop i).drop wd.size, ?_⟩
 conv => lhs; rw [<- List.take_append_drop wd.size (s.data.toList.drop i)]
 rw [h.1]
theorem word_any (w : World) (g i : Nat) (s wd : ByteArray) (l : List Tok) (hS : ScS w w g s i l) (hl : l.length <= 65536) (hs : s.size <= 65536) (hi : i < s.size) (hw : wd = wTrue \/ wd = wFalse \/ wd = wNull) (ha : wordAt s i wd = true) :
 Calls Tryz.prog 135 #[.pointer (some ⟨g, 0, none⟩)] w fun e w' => e = .returned (.bool true) /\ ScS w w' g s (i + wd.size) (l ++ [⟨2, 0, wd, i⟩]) := by
 obtain ⟨r, hr⟩ := word_split ha
 have hend : i + wd.size = s.size \/ (i + wd.size < s.size /\ partCh s[i + wd.size]! = false) := by
  unfold wordAt at ha
  rw [Bool.and_eq_true, Bool.or_eq_true, decide_eq_true_eq, Bool.and_eq_true, decide_eq_true_eq] at ha
  rcases ha.2 with h | h
  ·exact .inl h
  ·exact .inr ⟨of_decide_eq_true h.1, by simpa using h.2⟩
 obtain ⟨⟨v, h1, h2⟩, h3⟩ := hS
 have hgl := h1.lt
 have hA : Below w.heap.size w (w.alloc (.cells #[.string ⟨#[116, 114, 117, 101]⟩, .string ⟨#[102, 97, 108, 115, 101]⟩, .string ⟨#[110, 117, 108, 108]⟩] 9)) := (Below.refl _ _).alloc (Nat.le_refl _) _
 have hB : (w.alloc (.cells #[.string ⟨#[116, 114, 117, 101]⟩, .string ⟨#[102, 97, 108, 115, 101]⟩, .string ⟨#[110, 117, 108, 108]⟩] 9)).heap[w.heap.size]? = some (.cells #[.string ⟨#[116, 114, 117, 101]⟩, .string ⟨#[102, 97, 108, 115, 101]⟩, .string ⟨#[110, 117, 108, 108]⟩] 9 (0, 0)) := heap_alloc_at rfl
 have hs1 : (w.alloc (.cells #[.string ⟨#[116, 114, 117, 101]⟩, .string ⟨#[102, 97, 108, 115, 101]⟩, .string ⟨#[110, 117, 108, 108]⟩] 9)).heap.size = w.heap.size + 1 := by simp
 obtain ⟨W1, hW1⟩ : ∃ W1, w.alloc (.cells #[.string ⟨#[116, 114, 117, 101]⟩, .string ⟨#[102, 97, 108, 115, 101]⟩, .string ⟨#[110, 117, 108, 108]⟩] 9) = W1 := ⟨_, rfl⟩
 rw [hW1] at hA hB hs1
 have HS1 : Hid (ScS w W1 g s i l) := ⟨⟨v, h1.under hA h1.lt, h2.below hA (Nat.le_refl _)⟩, h3.trans (hA.mono (Nat.le_of_lt h1.lt))⟩
 have HZ : Hid (W1.heap.size = w.heap.size + 1 /\ g < w.heap.size) := ⟨hs1, h1.lt⟩
 have a0 : W1.cell? ⟨w.heap.size, 0, none⟩ = some (.string ⟨#[116, 114, 117, 101]⟩) := by rw [cell_of_row W1 w.heap.size 0 _ _ _ hB]; rfl
 have a1 : W1.cell? ⟨w.heap.size, 1, none⟩ = some (.string ⟨#[102, 97, 108, 115, 101]⟩) := by rw [cell_of_row W1 w.heap.size 1 _ _ _ hB]; rfl
 have a2 : W1.cell? ⟨w.heap.size, 2, none⟩ = some (.string ⟨#[110, 117, 108, 108]⟩) := by rw [cell_of_row W1 w.heap.size 2 _ _ _ hB]; rfl
 have s0 : W1.cell? ⟨g, 0, none⟩ = some (.string s) := (h1.under hA h1.lt).cell 0 rfl
 have s1 : W1.cell? ⟨g, 1, none⟩ = some (.int .i64 i) := (h1.under hA h1.lt).cell 1 rfl
 have zg : g < W1.heap.size := by omega
 have i0 : (0 : Int) <= (i : Int) := Int.natCast_nonneg _
 have i1 : (i : Int) <= (s.size : Int) := by omega
 have i2 : i < 4398046510976 := by omega
 have HR : Hid (s.data.toList.drop i = wd.data.toList ++ r) := hr
 have HEND : Hid (i + wd.size = s.size \/ (i + wd.size < s.size /\ partCh s[i + wd.size]! = false)) := hend
 have HW := Lib.hid hw
 have HL : Hid (l.length <= 65536 /\ s.size <= 65536) := ⟨hl, hs⟩
 obtain ⟨m, hm⟩ : ∃ m : Nat, (m = 0 /\ wd = wTrue) \/ (m = 1 /\ wd = wFalse) \/ (m = 2 /\ wd = wNull) := by
  rcases hw with h | h | h
  ·exact ⟨0, .inl ⟨rfl, h⟩⟩
  ·exact ⟨1, .inr (.inl ⟨rfl, h⟩)⟩
  ·exact ⟨2, .inr (.inr ⟨rfl, h⟩)⟩
 have HM := Lib.hid hm
 have hm2 : m <= 2 := by rcases hm with h | h | h <;> omega
 clear hr hend h1 h2 h3 hA hB hs1 hl hs hi ha hw hm
 go_enter Tryz.func135, Tryz.ntmps135
 go_upto_region 2 with fail
 try rw [hW1]
 clear hW1
 go_wp2_with fail
 go_loopw [8] (fun o wr => ∃ k : Nat, k <= m /\ o = .int .i64 (k : Int) /\ ∃ n, wr = W1.drewN n) (fun o _ => 3 - (intOf o).toNat)
 case atStart => exact ⟨0, Nat.zero_le _, rfl, 0, rfl⟩
 case round =>
  obtain ⟨k, hk, rfl, nr, rfl⟩ := hrel
  have hk3 : k = 0 \/ k = 1 \/ k = 2 := by omega
  rcases hk3 with rfl | rfl | rfl
  ·by_cases hkm : 0 = m
   ·subst hkm
    have hwd : wd = wTrue := by rcases HM.out with h | h | h <;> first | exact h.2 | (exfalso; omega)
    have HP : Hid (∀ n, Calls Tryz.prog 172 #[.string (s.extract i s.size), .string ⟨#[116, 114, 117, 101]⟩] (W1.drewN n) fun e w' => e = .returned (.bool true) /\ w' = W1.drewN n) := fun n => (strings_HasPrefix _ _ _).mono (fun e w' h => ⟨by rw [h.1, ext_all, HR.out, hwd]; simp [Lib.hasPrefix, wTrue, List.isPrefixOf], h.2⟩)
    have hen := HEND.out
    rw [hwd] at hen
    have hsz : (wTrue).size = 4 := rfl
    rw [hsz] at hen
    have HWD := Lib.hid hwd
    clear hwd
    rcases hen with hen | ⟨hen1, hen2⟩
    ·have q1 : (((i : Int) + 4) == (s.size : Int)) = true := by simp; omega
     go_wp2_with fail
     go_quiet ((go_at_call 172; exact (HP.out _).mono (fun e w' h => ⟨h.1, _, h.2⟩)))
     go_wp2_with fail
     refine (lay_any _ g i (i + 4) 0 0 s ⟨#[116, 114, 117, 101]⟩ 2 l (HS1.out.now _) HL.out.1).mono ?_
     rintro e w4 ⟨rfl, hS4⟩
     go_wp2_with fail
     go_ret
     refine ⟨rfl, ?_⟩
     rw [HWD.out]
     exact ⟨hS4.ex, HS1.out.below.trans ((bdn (Below.refl _ _) _).trans hS4.below)⟩
    ·have q1 : (((i : Int) + 4) == (s.size : Int)) = false := by simp; omega
     have HPT : Hid (∀ n, Calls Tryz.prog 173 #[.int .u8 s[i + 4].toNat] (W1.drewN n) fun e w' => e = .returned (.bool false) /\ w' = W1.drewN n) := fun n => (part_any _ _).mono (fun e w' h => ⟨by rw [h.1, <- get_bang s (i + 4) hen1, hen2], h.2⟩)
     have i3 : ((i : Int) + 4) < (s.size : Int) := by omega
     have i4 : (0 : Int) <= (i : Int) + 4 := by omega
     have i5 : ((i : Int) + 4).toNat = i + 4 := by omega
     go_wp2_with fail
     go_quiet (first | (go_at_call 172; exact (HP.out _).mono (fun e w' h => ⟨h.1, _, h.2⟩)) | (go_at_call 173; exact (HPT.out _).mono (fun e w' h => ⟨h.1, _, h.2⟩)))
     go_wp2_with fail
     refine (lay_any _ g i (i + 4) 0 0 s ⟨#[116, 114, 117, 101]⟩ 2 l (HS1.out.now _) HL.out.1).mono ?_
     rintro e w4 ⟨rfl, hS4⟩
     go_wp2_with fail
     go_ret
     refine ⟨rfl, ?_⟩
     rw [HWD.out]
     exact ⟨hS4.ex, HS1.out.below.trans ((bdn (Below.refl _ _) _).trans hS4.below)⟩
   ·have hlt : 0 < m := by omega
    have HP : Hid (∀ n, Calls Tryz.prog 172 #[.string (s.extract i s.size), .string ⟨#[116, 114, 117, 101]⟩] (W1.drewN n) fun e w' => e = .returned (.bool false) /\ w' = W1.drewN n) := fun n => (strings_HasPrefix _ _ _).mono (fun e w' h => ⟨by
     rw [h.1, ext_all, HR.out]
     rcases HM.out with h | h | h
     ·exfalso; omega
     ·rw [h.2]; first | (exfalso; omega) | simp [Lib.hasPrefix, wFalse, List.isPrefixOf]
     ·rw [h.2]; simp [Lib.hasPrefix, wNull, List.isPrefixOf], h.2⟩)
    go_wp2_with fail
    go_quiet ((go_at_call 172; exact (HP.out _).mono (fun e w' h => ⟨h.1, _, h.2⟩)))
    go_wp2_with fail
    go_roundw
    case rel => exact ⟨0 + 1, by omega, by go_num, _, rfl⟩
    case measure => first | (simp [intOf]; done) | (simp [intOf]; omega)
  ·by_cases hkm : 1 = m
   ·subst hkm
    have hwd : wd = wFalse := by rcases HM.out with h | h | h <;> first | exact h.2 | (exfalso; omega)
    have HP : Hid (∀ n, Calls Tryz.prog 172 #[.string (s.extract i s.size), .string ⟨#[102, 97, 108, 115, 101]⟩] (W1.drewN n) fun e w' => e = .returned (.bool true) /\ w' = W1.drewN n) := fun n => (strings_HasPrefix _ _ _).mono (fun e w' h => ⟨by rw [h.1, ext_all, HR.out, hwd]; simp [Lib.hasPrefix, wFalse, List.isPrefixOf], h.2⟩)
    have hen := HEND.out
    rw [hwd] at hen
    have hsz : (wFalse).size = 5 := rfl
    rw [hsz] at hen
    have HWD := Lib.hid hwd
    clear hwd
    rcases hen with hen | ⟨hen1, hen2⟩
    ·have q1 : (((i : Int) + 5) == (s.size : Int)) = true := by simp; omega
     go_wp2_with fail
     go_quiet ((go_at_call 172; exact (HP.out _).mono (fun e w' h => ⟨h.1, _, h.2⟩)))
     go_wp2_with fail
     refine (lay_any _ g i (i + 5) 0 0 s ⟨#[102, 97, 108, 115, 101]⟩ 2 l (HS1.out.now _) HL.out.1).mono ?_
     rintro e w4 ⟨rfl, hS4⟩
     go_wp2_with fail
     go_ret
     refine ⟨rfl, ?_⟩
     rw [HWD.out]
     exact ⟨hS4.ex, HS1.out.below.trans ((bdn (Below.refl _ _) _).trans hS4.below)⟩
    ·have q1 : (((i : Int) + 5) == (s.size : Int)) = false := by simp; omega
     have HPT : Hid (∀ n, Calls Tryz.prog 173 #[.int .u8 s[i + 5].toNat] (W1.drewN n) fun e w' => e = .returned (.bool false) /\ w' = W1.drewN n) := fun n => (part_any _ _).mono (fun e w' h => ⟨by rw [h.1, <- get_bang s (i + 5) hen1, hen2], h.2⟩)
     have i3 : ((i : Int) + 5) < (s.size : Int) := by omega
     have i4 : (0 : Int) <= (i : Int) + 5 := by omega
     have i5 : ((i : Int) + 5).toNat = i + 5 := by omega
     go_wp2_with fail
     go_quiet (first | (go_at_call 172; exact (HP.out _).mono (fun e w' h => ⟨h.1, _, h.2⟩)) | (go_at_call 173; exact (HPT.out _).mono (fun e w' h => ⟨h.1, _, h.2⟩)))
     go_wp2_with fail
     refine (lay_any _ g i (i + 5) 0 0 s ⟨#[102, 97, 108, 115, 101]⟩ 2 l (HS1.out.now _) HL.out.1).mono ?_
     rintro e w4 ⟨rfl, hS4⟩
     go_wp2_with fail
     go_ret
     refine ⟨rfl, ?_⟩
     rw [HWD.out]
     exact ⟨hS4.ex, HS1.out.below.trans ((bdn (Below.refl _ _) _).trans hS4.below)⟩
   ·have hlt : 1 < m := by omega
    have HP : Hid (∀ n, Calls Tryz.prog 172 #[.string (s.extract i s.size), .string ⟨#[102, 97, 108, 115, 101]⟩] (W1.drewN n) fun e w' => e = .returned (.bool false) /\ w' = W1.drewN n) := fun n => (strings_HasPrefix _ _ _).mono (fun e w' h => ⟨by
     rw [h.1, ext_all, HR.out]
     rcases HM.out with h | h | h
     ·exfalso; omega
     ·rw [h.2]; first | (exfalso; omega) | simp [Lib.hasPrefix, wFalse, List.isPrefixOf]
     ·rw [h.2]; simp [Lib.hasPrefix, wNull, List.isPrefixOf], h.2⟩)
    go_wp2_with fail
    go_quiet ((go_at_call 172; exact (HP.out _).mono (fun e w' h => ⟨h.1, _, h.2⟩)))
    go_wp2_with fail
    go_roundw
    case rel => exact ⟨1 + 1, by omega, by go_num, _, rfl⟩
    case measure => first | (simp [intOf]; done) | (simp [intOf]; omega)
  ·by_cases hkm : 2 = m
   ·subst hkm
    have hwd : wd = wNull := by rcases HM.out with h | h | h <;> first | exact h.2 | (exfalso; omega)
    have HP : Hid (∀ n, Calls Tryz.prog 172 #[.string (s.extract i s.size), .string ⟨#[110, 117, 108, 108]⟩] (W1.drewN n) fun e w' => e = .returned (.bool true) /\ w' = W1.drewN n) := fun n => (strings_HasPrefix _ _ _).mono (fun e w' h => ⟨by rw [h.1, ext_all, HR.out, hwd]; simp [Lib.hasPrefix, wNull, List.isPrefixOf], h.2⟩)
    have hen := HEND.out
    rw [hwd] at hen
    have hsz : (wNull).size = 4 := rfl
    rw [hsz] at hen
    have HWD := Lib.hid hwd
    clear hwd
    rcases hen with hen | ⟨hen1, hen2⟩
    ·have q1 : (((i : Int) + 4) == (s.size : Int)) = true := by simp; omega
     go_wp2_with fail
     go_quiet ((go_at_call 172; exact (HP.out _).mono (fun e w' h => ⟨h.1, _, h.2⟩)))
     go_wp2_with fail
     refine (lay_any _ g i (i + 4) 0 0 s ⟨#[110, 117, 108, 108]⟩ 2 l (HS1.out.now _) HL.out.1).mono ?_
     rintro e w4 ⟨rfl, hS4⟩
     go_wp2_with fail
     go_ret
     refine ⟨rfl, ?_⟩
     rw [HWD.out]
     exact ⟨hS4.ex, HS1.out.below.trans ((bdn (Below.refl _ _) _).trans hS4.below)⟩
    ·have q1 : (((i : Int) + 4) == (s.size : Int)) = false := by simp; omega
     have HPT : Hid (∀ n, Calls Tryz.prog 173 #[.int .u8 s[i + 4].toNat] (W1.drewN n) fun e w' => e = .returned (.bool false) /\ w' = W1.drewN n) := fun n => (part_any _ _).mono (fun e w' h => ⟨by rw [h.1, <- get_bang s (i + 4) hen1, hen2], h.2⟩)
     have i3 : ((i : Int) + 4) < (s.size : Int) := by omega
     have i4 : (0 : Int) <= (i : Int) + 4 := by omega
     have i5 : ((i : Int) + 4).toNat = i + 4 := by omega
     go_wp2_with fail
     go_quiet (first | (go_at_call 172; exact (HP.out _).mono (fun e w' h => ⟨h.1, _, h.2⟩)) | (go_at_call 173; exact (HPT.out _).mono (fun e w' h => ⟨h.1, _, h.2⟩)))
     go_wp2_with fail
     refine (lay_any _ g i (i + 4) 0 0 s ⟨#[110, 117, 108, 108]⟩ 2 l (HS1.out.now _) HL.out.1).mono ?_
     rintro e w4 ⟨rfl, hS4⟩
     go_wp2_with fail
     go_ret
     refine ⟨rfl, ?_⟩
     rw [HWD.out]
     exact ⟨hS4.ex, HS1.out.below.trans ((bdn (Below.refl _ _) _).trans hS4.below)⟩
   ·exfalso; omega
def allRet (l : List UInt8) : Value := match allN l with | some n => .tuple #[.int .i64 n, .bool true] | none => .tuple #[.int .i64 0, .bool false]
theorem allRet_some {l : List UInt8} {n : Int} (h : allN l = some n) : allRet l = .tuple #[.int .i64 n, .bool true] := by unfold allRet; rw [h]
theorem allRet_none {l : List UInt8} (h : allN l = none) : allRet l = .tuple #[.int .i64 0, .bool false] := by unfold allRet; rw [h]
theorem allN_rd (l : List UInt8) : allN l = if (rdOk l && decide (endN l = l.length)) && decide (l ≠ [45, 48]) then some (signN l) else none := by
 rw [allN_eq]
 by_cases he : endN l = l.length
 ·have hs : stopN l = false := by
   unfold stopN
   rw [List.getElem?_eq_none (by omega)]
  unfold rdOk
  rw [hs]
  simp
 ·rw [decide_eq_false he, Bool.and_false, Bool.and_false]
theorem allN_no {l : List UInt8} (h : rdOk l = false) : allN l = none := by rw [allN_rd, h]; rfl
theorem allN_part {l : List UInt8} (h : endN l ≠ l.length) : allN l = none := by rw [allN_rd, decide_eq_false h, Bool.and_false]; rfl
theorem allN_whole {l : List UInt8} (h1 : rdOk l = true) (h2 : endN l = l.length) : allN l = if l ≠ [45, 48] then some (signN l) else none := by
 rw [allN_rd, h1, decide_eq_true h2]
 by_cases h : l = [45, 48]
 ·simp [h]
 ·simp [h]
theorem endN_le (l : List UInt8) : endN l <= l.length := by
 have h := (spanE_le l (k := 0 + fromN (l.drop 0)) (by
  unfold fromN
  split
  ·rename_i h
   cases l with
   | nil => simp at h
   | cons a r => simp
  ·simp)).2
 rw [spanE_from] at h
 simpa using h
theorem signN_safe {l : List UInt8} (h : rdOk l = true) : -9007199254740991 <= signN l /\ signN l <= 9007199254740991 := by
 unfold rdOk at h
 rw [Bool.and_eq_true] at h
 have h5 := dOk_safe h.1
 have h6 := valD_nonneg (dOk_all h.1)
 unfold signN
 split <;> omega
theorem wfI {n : Int} (h1 : -9223372036854775808 <= n) (h2 : n <= 9223372036854775807) : (Lit.int .i64 n).wf = true := by
 simp [Lit.wf, IntKind.min, IntKind.max, IntKind.bits, IntKind.signed]
 omega
theorem readRet0 (l : List UInt8) : readRet l 0 = if rdOk l then .tuple #[.int .i64 (signN l), .int .i64 ((endN l : Nat) : Int), .int .i64 0] else .tuple #[.int .i64 0, .int .i64 0, .int .i64 30] := by
 unfold readRet
 simp
theorem toB_back (s : ByteArray) : toB s.data.toList = s := rfl
theorem numAll_any (s : ByteArray) (w : World) (hs : s.size <= maxLen) : Calls Tryz.prog 76 #[.string s] w fun e w' => e = .returned (allRet s.data.toList) /\ Below w.heap.size w w' := by
 have HRD : Hid (∀ W, Calls Tryz.prog 117 #[.string s, .int .i64 0] W fun e w' => e = .returned (readRet s.data.toList 0) /\ W = w') := fun W => (numRead_any s 0 W hs (Nat.zero_le _)).mono (fun e w' h => ⟨h.1, h.2.symm⟩)
 rw [readRet0] at HRD
 have hsz : s.data.toList.length = s.size := by rw [Array.length_toList]; rfl
 have hle := endN_le s.data.toList
 rw [hsz] at hle
 obtain ⟨R, hR⟩ : ∃ R, allRet s.data.toList = R := ⟨_, rfl⟩
 rw [hR]
 have HR := Lib.hid hR
 unfold maxLen at hs
 cases hok : rdOk s.data.toList with
 | false =>
   have HRR : Hid (R = .tuple #[.int .i64 0, .bool false]) := by unfold Hid; rw [<- HR.out, allRet_none (allN_no hok)]
   rw [hok] at HRD
   simp only [Bool.false_eq_true, if_false] at HRD
   clear hR hok hsz hle
   go_enter Tryz.func76, Tryz.ntmps76
   go_wp2_with (first | (go_at_call 117; refine (HRD.out _).mono ?_; rintro e w1 ⟨rfl, rfl⟩) | fail)
   rw [HRR.out]
   refine bodyPost_ret (v := .tuple #[.int .i64 0, .bool false]) (by simp [results, Tryz.results76, go_sem]) rfl ⟨rfl, Below.refl _ _⟩
 | true =>
   rw [hok] at HRD
   simp only [if_true] at HRD
   obtain ⟨sn1, sn2⟩ := signN_safe hok
   have HPN : Hid (∀ W, Calls Tryz.prog 53 #[.int .i64 (signN s.data.toList)] W (PutRet W (signN s.data.toList))) := fun W => put_any3 _ W (wfI (by omega) (by omega))
   by_cases hen : endN s.data.toList = s.size
   ·have HAN : Hid (allN s.data.toList = if s.data.toList ≠ [45, 48] then some (signN s.data.toList) else none) := allN_whole hok (by rw [hen, hsz])
    have HDEC : Hid (decide (numL (signN s.data.toList) = s.data.toList) = decide (s.data.toList ≠ [45, 48])) := by
     have h1 := hok
     unfold rdOk at h1
     rw [Bool.and_eq_true] at h1
     exact numL_sign h1.1 (by rw [hen, hsz])
    rw [hen] at HRD
    obtain ⟨n, hn⟩ : ∃ n, signN s.data.toList = n := ⟨_, rfl⟩
    rw [hn] at HRD HPN HAN HDEC sn1 sn2
    obtain ⟨b, hb⟩ : ∃ b, decide (s.data.toList ≠ [45, 48]) = b := ⟨_, rfl⟩
    rw [hb] at HDEC
    have hq : ((toB (numL n)).toList == s.toList) = b := by
     rw [str_beq, <- HDEC.out]
     by_cases h : numL n = s.data.toList
     ·rw [decide_eq_true h, h, toB_back]; simp
     ·rw [decide_eq_false h, decide_eq_false (fun e => h (by rw [<- toB_back s] at e; exact toB_inj e))]
    have hq2 : ((toB (numL n)).toList != s.toList) = !b := by unfold bne; rw [hq]
    have HB := Lib.hid hb
    obtain ⟨T, hT⟩ : ∃ T, toB (numL n) = T := ⟨_, rfl⟩
    unfold PutRet at HPN
    rw [hT] at HPN hq hq2
    have s0 : (0 : Int) <= (s.size : Int) := Int.natCast_nonneg _
    clear hR hok hsz hle hen hn hb hT HDEC
    cases b
    ·have HRR : Hid (R = .tuple #[.int .i64 0, .bool false]) := by
      unfold Hid
      rw [<- HR.out, allRet_none]
      rw [HAN.out, if_neg (of_decide_eq_false HB.out)]
     go_enter Tryz.func76, Tryz.ntmps76
     go_wp2_with (first | (go_at_call 117; refine (HRD.out _).mono ?_; rintro e w1 ⟨rfl, rfl⟩) | (go_at_call 53; refine (HPN.out _).mono ?_; rintro e w2 ⟨rfl, hb2⟩) | fail)
     rw [HRR.out]
     refine bodyPost_ret (v := .tuple #[.int .i64 0, .bool false]) (by simp [results, Tryz.results76, go_sem]) rfl ⟨rfl, hb2⟩
    ·have HRR : Hid (R = .tuple #[.int .i64 n, .bool true]) := by
      unfold Hid
      rw [<- HR.out, allRet_some]
      rw [HAN.out, if_pos (of_decide_eq_true HB.out)]
     go_enter Tryz.func76, Tryz.ntmps76
     go_wp2_with (first | (go_at_call 117; refine (HRD.out _).mono ?_; rintro e w1 ⟨rfl, rfl⟩) | (go_at_call 53; refine (HPN.out _).mono ?_; rintro e w2 ⟨rfl, hb2⟩) | fail)
     rw [HRR.out]
     refine bodyPost_ret (v := .tuple #[.int .i64 n, .bool true]) (by simp [results, Tryz.results76, go_sem]) rfl ⟨rfl, hb2⟩
   ·have HRR : Hid (R = .tuple #[.int .i64 0, .bool false]) := by unfold Hid; rw [<- HR.out, allRet_none (allN_part (by rw [hsz]; exact hen))]
    obtain ⟨E, hE⟩ : ∃ E, endN s.data.toList = E := ⟨_, rfl⟩
    rw [hE] at hen HRD hle
    have i1 : ((E : Int) == (s.size : Int)) = false := by simp; omega
    have i2 : ((E : Int) != (s.size : Int)) = true := by unfold bne; rw [i1]; rfl
    clear hR hok hsz hE
    go_enter Tryz.func76, Tryz.ntmps76
    go_wp2_with (first | (go_at_call 117; refine (HRD.out _).mono ?_; rintro e w1 ⟨rfl, rfl⟩) | fail)
    rw [HRR.out]
    refine bodyPost_ret (v := .tuple #[.int .i64 0, .bool false]) (by simp [results, Tryz.results76, go_sem]) rfl ⟨rfl, Below.refl _ _⟩
theorem refAll_any (s : ByteArray) (w : World) (hs : s.size <= maxLen) : Calls Tryz.prog 84 #[.string s] w fun e w' => e = .returned (allRet s.data.toList) /\ Below w.heap.size w w' := by
 have HRD : Hid (∀ W, Calls Tryz.prog 128 #[.string s, .int .i64 0] W fun e w' => e = .returned (readRet s.data.toList 0) /\ W = w') := fun W => refRead_any s 0 W hs (Nat.zero_le _)
 rw [readRet0] at HRD
 have hsz : s.data.toList.length = s.size := by rw [Array.length_toList]; rfl
 have hle := endN_le s.data.toList
 rw [hsz] at hle
 obtain ⟨R, hR⟩ : ∃ R, allRet s.data.toList = R := ⟨_, rfl⟩
 rw [hR]
 have HR := Lib.hid hR
 unfold maxLen at hs
 cases hok : rdOk s.data.toList with
 | false =>
   have HRR : Hid (R = .tuple #[.int .i64 0, .bool false]) := by unfold Hid; rw [<- HR.out, allRet_none (allN_no hok)]
   rw [hok] at HRD
   simp only [Bool.false_eq_true, if_false] at HRD
   clear hR hok hsz hle
   go_enter Tryz.func84, Tryz.ntmps84
   go_wp2_with (first | (go_at_call 128; refine (HRD.out _).mono ?_; rintro e w1 ⟨rfl, rfl⟩) | fail)
   rw [HRR.out]
   refine bodyPost_ret (v := .tuple #[.int .i64 0, .bool false]) (by simp [results, Tryz.results84, go_sem]) rfl ⟨rfl, Below.refl _ _⟩
 | true =>
   rw [hok] at HRD
   simp only [if_true] at HRD
   by_cases hen : endN s.data.toList = s.size
   ·have HAN : Hid (allN s.data.toList = if s.data.toList ≠ [45, 48] then some (signN s.data.toList) else none) := allN_whole hok (by rw [hen, hsz])
    rw [hen] at HRD
    obtain ⟨n, hn⟩ : ∃ n, signN s.data.toList = n := ⟨_, rfl⟩
    rw [hn] at HRD HAN
    obtain ⟨b, hb⟩ : ∃ b, decide (s.data.toList ≠ [45, 48]) = b := ⟨_, rfl⟩
    have hq : (s.toList == [45, 48]) = !b := by
     have e : (({ data := #[45, 48] } : ByteArray).toList) = [45, 48] := by rw [ByteArray.toList_eq]
     rw [<- e, str_beq, <- hb]
     by_cases h : s.data.toList = [45, 48]
     ·have h2 : s = { data := #[45, 48] } := by rw [<- toB_back s, h]; rfl
      rw [decide_eq_true h2]; simp [h]
     ·rw [decide_eq_false (fun e => h (by rw [e])), decide_eq_true h]; rfl
    have HB := Lib.hid hb
    have s0 : (0 : Int) <= (s.size : Int) := Int.natCast_nonneg _
    clear hR hok hsz hle hen hn hb
    cases b
    ·have hq2 : (s.toList == [45, 48]) = true := hq
     clear hq
     have HRR : Hid (R = .tuple #[.int .i64 0, .bool false]) := by
      unfold Hid
      rw [<- HR.out, allRet_none]
      rw [HAN.out, if_neg (of_decide_eq_false HB.out)]
     go_enter Tryz.func84, Tryz.ntmps84
     go_wp2_with (first | (go_at_call 128; refine (HRD.out _).mono ?_; rintro e w1 ⟨rfl, rfl⟩) | fail)
     rw [HRR.out]
     refine bodyPost_ret (v := .tuple #[.int .i64 0, .bool false]) (by simp [results, Tryz.results84, go_sem]) rfl ⟨rfl, Below.refl _ _⟩
    ·have hq2 : (s.toList == [45, 48]) = false := hq
     clear hq
     have HRR : Hid (R = .tuple #[.int .i64 n, .bool true]) := by
      unfold Hid
      rw [<- HR.out, allRet_some]
      rw [HAN.out, if_pos (of_decide_eq_true HB.out)]
     go_enter Tryz.func84, Tryz.ntmps84
     go_wp2_with (first | (go_at_call 128; refine (HRD.out _).mono ?_; rintro e w1 ⟨rfl, rfl⟩) | fail)
     rw [HRR.out]
     refine bodyPost_ret (v := .tuple #[.int .i64 n, .bool true]) (by simp [results, Tryz.results84, go_sem]) rfl ⟨rfl, Below.refl _ _⟩
   ·have HRR : Hid (R = .tuple #[.int .i64 0, .bool false]) := by unfold Hid; rw [<- HR.out, allRet_none (allN_part (by rw [hsz]; exact hen))]
    obtain ⟨E, hE⟩ : ∃ E, endN s.data.toList = E := ⟨_, rfl⟩
    rw [hE] at hen HRD hle
    have i1 : ((E : Int) == (s.size : Int)) = false := by simp; omega
    have i2 : ((E : Int) != (s.size : Int)) = true := by unfold bne; rw [i1]; rfl
    clear hR hok hsz hE
    go_enter Tryz.func84, Tryz.ntmps84
    go_wp2_with (first | (go_at_call 128; refine (HRD.out _).mono ?_; rintro e w1 ⟨rfl, rfl⟩) | fail)
    rw [HRR.out]
    refine bodyPost_ret (v := .tuple #[.int .i64 0, .bool false]) (by simp [results, Tryz.results84, go_sem]) rfl ⟨rfl, Below.refl _ _⟩
def seqRet (o : Option Int) : Value := match o with | some n => .tuple #[.int .i64 n, .int .i64 0] | none => .tuple #[.int .i64 0, .int .i64 100]
def letZ (card : Bool) : Int := if card then 99 else 98
theorem letZ_dec (card : Bool) (c : UInt8) : (((c.toNat : Nat) : Int) == letZ card) = decide (c = letU card) := by
 have h : ∀ k : UInt8, (((c.toNat : Nat) : Int) == ((k.toNat : Nat) : Int)) = decide (c = k) := fun k => by
  by_cases h : c = k
  ·rw [decide_eq_true h, h]; simp
  ·rw [decide_eq_false h]
   have h2 : ¬ c.toNat = k.toNat := fun e => h (UInt8.toNat_inj.1 e)
   simp
   omega
 cases card
 ·exact h 98
 ·exact h 99
theorem seqI_nil {card : Bool} {s : ByteArray} (h : s.data.toList = []) : seqI card s = none := by unfold seqI; rw [h]; rfl
theorem seqI_cons {card : Bool} {s : ByteArray} {c : UInt8} {r : List UInt8} (h : s.data.toList = c :: r) : seqI card s = if c = letU card then ((allN r).bind (fun n => if 0 <= n then some n else none)) else none := by
 unfold seqI
 rw [h, seqL_cons]
 by_cases hc : c = letU card
 ·rw [if_pos hc, if_pos hc]; cases allN r <;> rfl
 ·rw [if_neg hc, if_neg hc]
theorem seq_any (card : Bool) (s : ByteArray) (w : World) (hs : s.size <= maxLen) : Calls Tryz.prog 31 #[.int .i64 (kindI card), .string s] w fun e w' => e = .returned (seqRet (seqI card s)) /\ Below w.heap.size w w' := by
 have HLT : Hid (∀ W, Calls Tryz.prog 52 #[.int .i64 (kindI card)] W fun e w' => ∃ x, e = .returned (.tuple #[.int .u8 x, .int .u8 (letZ card)]) /\ W = w') := fun W => (letterI_any card W).mono (fun e w' h => ⟨_, h.1, h.2.symm⟩)
 have HAL : Hid (∀ W, Calls Tryz.prog 76 #[.string (s.extract 1 s.size)] W fun e w' => e = .returned (allRet (s.data.toList.drop 1)) /\ Below W.heap.size W w') := fun W => (numAll_any (s.extract 1 s.size) W (by rw [<- str_len, ext_all, List.length_drop, str_len]; omega)).mono (fun e w' h => by rw [ext_all] at h; exact h)
 have hlz : (letZ card == 0) = false := by cases card <;> rfl
 have hlz2 : ¬ (letZ card = 0) := by cases card <;> decide
 have HLD := Lib.hid (letZ_dec card)
 obtain ⟨kd, hkd⟩ : ∃ k, kindI card = k := ⟨_, rfl⟩
 rw [hkd] at HLT
 rw [hkd]
 obtain ⟨R, hR⟩ : ∃ R, seqRet (seqI card s) = R := ⟨_, rfl⟩
 rw [hR]
 have HR := Lib.hid hR
 clear hR hkd
 unfold maxLen at hs
 have s0 : (0 : Int) <= (s.size : Int) := Int.natCast_nonneg _
 obtain ⟨lt, hlt⟩ : ∃ l, letZ card = l := ⟨_, rfl⟩
 rw [hlt] at HLT hlz hlz2 HLD
 clear hlt
 cases hl : s.data.toList with
 | nil =>
   have HRR : Hid (R = .tuple #[.int .i64 0, .int .i64 100]) := by unfold Hid; rw [<- HR.out, seqI_nil hl]; rfl
   have he : s.toList.isEmpty = true := by rw [ByteArray.toList_eq, hl]; rfl
   clear hl
   go_enter Tryz.func31, Tryz.ntmps31
   go_wp2_with (first | (go_at_call 52; refine (HLT.out _).mono ?_; rintro e w1 ⟨x, rfl, rfl⟩) | fail)
   rw [HRR.out]
   refine bodyPost_ret (v := .tuple #[.int .i64 0, .int .i64 100]) (by simp [results, Tryz.results31, go_sem]) rfl ⟨rfl, Below.refl _ _⟩
 | cons c r =>
   have hsz : s.size = r.length + 1 := by rw [<- str_len, hl, List.length_cons]
   have hp : 0 < s.size := by omega
   have hp' : (0 : Int) < (s.size : Int) := by omega
   have hp1 : (1 : Int) <= (s.size : Int) := by omega
   have hc : s[0] = c := by
    have h := get_opt hp
    rw [hl] at h
    exact (Option.some.inj h).symm
   have he : s.toList.isEmpty = false := by rw [ByteArray.toList_eq, hl]; rfl
   have HSI := Lib.hid (seqI_cons (card := card) hl)
   rw [hl, List.drop_succ_cons, List.drop_zero] at HAL
   have HD := Lib.hid (HLD.out c)
   obtain ⟨b, hb⟩ : ∃ b, (((c.toNat : Nat) : Int) == lt) = b := ⟨_, rfl⟩
   rw [hb] at HD
   have hb2 : (((c.toNat : Nat) : Int) != lt) = !b := by unfold bne; rw [hb]
   clear hl hsz
   cases b
   ·have hb3 : ¬ (((c.toNat : Nat) : Int) = lt) := by simpa using hb
    have HRR : Hid (R = .tuple #[.int .i64 0, .int .i64 100]) := by unfold Hid; rw [<- HR.out, HSI.out, if_neg (of_decide_eq_false HD.out.symm)]; rfl
    go_enter Tryz.func31, Tryz.ntmps31
    go_wp2_with (first | (go_at_call 52; refine (HLT.out _).mono ?_; rintro e w1 ⟨x, rfl, rfl⟩) | fail)
    rw [HRR.out]
    refine bodyPost_ret (v := .tuple #[.int .i64 0, .int .i64 100]) (by simp [results, Tryz.results31, go_sem]) rfl ⟨rfl, Below.refl _ _⟩
   ·have hcl : c = letU card := of_decide_eq_true HD.out.symm
    have HSI2 : Hid (seqI card s = ((allN r).bind (fun n => if 0 <= n then some n else none))) := by unfold Hid; rw [HSI.out, if_pos hcl]
    clear hcl HD HSI HLD
    cases ha : allN r with
    | none =>
      have HRR : Hid (R = .tuple #[.int .i64 0, .int .i64 100]) := by unfold Hid; rw [<- HR.out, HSI2.out, ha]; rfl
      rw [allRet_none ha] at HAL
      clear ha
      go_enter Tryz.func31, Tryz.ntmps31
      go_wp2_with (first | (go_at_call 52; refine (HLT.out _).mono ?_; rintro e w1 ⟨x, rfl, rfl⟩) | (go_at_call 76; refine (HAL.out _).mono ?_; rintro e w2 ⟨rfl, hb9⟩) | fail)
      rw [HRR.out]
      refine bodyPost_ret (v := .tuple #[.int .i64 0, .int .i64 100]) (by simp [results, Tryz.results31, go_sem]) rfl ⟨rfl, hb9⟩
    | some n =>
      rw [allRet_some ha] at HAL
      by_cases hn : n < 0
      ·have HRR : Hid (R = .tuple #[.int .i64 0, .int .i64 100]) := by unfold Hid; rw [<- HR.out, HSI2.out, ha]; rw [Option.bind_some, if_neg (by omega)]; rfl
       have hnd : decide (n < 0) = true := decide_eq_true hn
       clear ha
       go_enter Tryz.func31, Tryz.ntmps31
       go_wp2_with (first | (go_at_call 52; refine (HLT.out _).mono ?_; rintro e w1 ⟨x, rfl, rfl⟩) | (go_at_call 76; refine (HAL.out _).mono ?_; rintro e w2 ⟨rfl, hb9⟩) | fail)
       rw [HRR.out]
       refine bodyPost_ret (v := .tuple #[.int .i64 0, .int .i64 100]) (by simp [results, Tryz.results31, go_sem]) rfl ⟨rfl, hb9⟩
      ·have HRR : Hid (R = .tuple #[.int .i64 n, .int .i64 0]) := by unfold Hid; rw [<- HR.out, HSI2.out, ha]; rw [Option.bind_some, if_pos (by omega)]; rfl
       have hnd : decide (n < 0) = false := decide_eq_false hn
       clear ha
       go_enter Tryz.func31, Tryz.ntmps31
       go_wp2_with (first | (go_at_call 52; refine (HLT.out _).mono ?_; rintro e w1 ⟨x, rfl, rfl⟩) | (go_at_call 76; refine (HAL.out _).mono ?_; rintro e w2 ⟨rfl, hb9⟩) | fail)
       rw [HRR.out]
       refine bodyPost_ret (v := .tuple #[.int .i64 n, .int .i64 0]) (by simp [results, Tryz.results31, go_sem]) rfl ⟨rfl, hb9⟩
theorem refSeq_any (card : Bool) (s : ByteArray) (w : World) (hs : s.size <= maxLen) : Calls Tryz.prog 40 #[.int .i64 (kindI card), .string s] w fun e w' => e = .returned (seqRet (seqI card s)) /\ Below w.heap.size w w' := by
 have HAL : Hid (∀ W, Calls Tryz.prog 84 #[.string (s.extract 1 s.size)] W fun e w' => e = .returned (allRet (s.data.toList.drop 1)) /\ Below W.heap.size W w') := fun W => (refAll_any (s.extract 1 s.size) W (by rw [<- str_len, ext_all, List.length_drop, str_len]; omega)).mono (fun e w' h => by rw [ext_all] at h; exact h)
 have HST : Hid (∀ (n : Int) W, (Lit.int .i64 n).wf = true -> Calls Tryz.prog 44 #[.int .i64 (kindI card), .int .i64 n] W fun e w' => e = .returned (.string (stateB card n)) /\ Below W.heap.size W w') := fun n W h => state10_any card n W h
 obtain ⟨k1, hk1⟩ : ∃ b, (kindI card == 1) = b := ⟨_, rfl⟩
 have hk2 : (kindI card != 1) = !k1 := by unfold bne; rw [hk1]
 obtain ⟨k2, hk3⟩ : ∃ b, (kindI card == 2) = b := ⟨_, rfl⟩
 have hk4 : (kindI card != 2) = !k2 := by unfold bne; rw [hk3]
 have hkk : (!k1 && !k2) = false := by rw [<- hk1, <- hk3]; cases card <;> rfl
 obtain ⟨kd, hkd⟩ : ∃ k, kindI card = k := ⟨_, rfl⟩
 rw [hkd] at HST hk1 hk2 hk3 hk4
 rw [hkd]
 obtain ⟨R, hR⟩ : ∃ R, seqRet (seqI card s) = R := ⟨_, rfl⟩
 rw [hR]
 have HR := Lib.hid hR
 clear hR hkd
 unfold maxLen at hs
 have s0 : (0 : Int) <= (s.size : Int) := Int.natCast_nonneg _
 cases hl : s.data.toList with
 | nil =>
   have HRR : Hid (R = .tuple #[.int .i64 0, .int .i64 100]) := by unfold Hid; rw [<- HR.out, seqI_nil hl]; rfl
   have he : s.toList.isEmpty = true := by rw [ByteArray.toList_eq, hl]; rfl
   clear hl
   cases k1 <;> cases k2 <;> simp only [Bool.not_true, Bool.not_false, Bool.and_self, Bool.and_true, Bool.true_and, Bool.false_and, Bool.and_false, reduceCtorEq] at hkk hk2 hk4
   all_goals
    go_enter Tryz.func40, Tryz.ntmps40
    go_wp2_with fail
    rw [HRR.out]
    refine bodyPost_ret (v := .tuple #[.int .i64 0, .int .i64 100]) (by simp [results, Tryz.results40, go_sem]) rfl ⟨rfl, Below.refl _ _⟩
 | cons c r =>
   have hsz : s.size = r.length + 1 := by rw [<- str_len, hl, List.length_cons]
   have hp : 0 < s.size := by omega
   have hp' : (0 : Int) < (s.size : Int) := by omega
   have hp1 : (1 : Int) <= (s.size : Int) := by omega
   have he : s.toList.isEmpty = false := by rw [ByteArray.toList_eq, hl]; rfl
   have HSI := Lib.hid (seqI_cons (card := card) hl)
   have HTB : Hid (s = toB (c :: r)) := by unfold Hid; rw [<- hl, toB_back]
   rw [hl, List.drop_succ_cons, List.drop_zero] at HAL
   clear hl hsz
   cases ha : allN r with
   | none =>
     have HRR : Hid (R = .tuple #[.int .i64 0, .int .i64 100]) := by
      unfold Hid; rw [<- HR.out, HSI.out, ha]
      by_cases h : c = letU card
      ·rw [if_pos h]; rfl
      ·rw [if_neg h]; rfl
     rw [allRet_none ha] at HAL
     clear ha
     cases k1 <;> cases k2 <;> simp only [Bool.not_true, Bool.not_false, Bool.and_self, Bool.and_true, Bool.true_and, Bool.false_and, Bool.and_false, reduceCtorEq] at hkk hk2 hk4
     all_goals
      go_enter Tryz.func40, Tryz.ntmps40
      go_wp2_with (first | (go_at_call 84; refine (HAL.out _).mono ?_; rintro e w2 ⟨rfl, hb9⟩) | fail)
      rw [HRR.out]
      refine bodyPost_ret (v := .tuple #[.int .i64 0, .int .i64 100]) (by simp [results, Tryz.results40, go_sem]) rfl ⟨rfl, hb9⟩
   | some n =>
     rw [allRet_some ha] at HAL
     obtain ⟨_, hn1, hn2⟩ := allN_some ha
     by_cases hn : n < 0
     ·have HRR : Hid (R = .tuple #[.int .i64 0, .int .i64 100]) := by
       unfold Hid; rw [<- HR.out, HSI.out, ha]
       by_cases h : c = letU card
       ·rw [if_pos h]; rw [Option.bind_some, if_neg (by omega)]; rfl
       ·rw [if_neg h]; rfl
      have hnd : decide (n < 0) = true := decide_eq_true hn
      clear ha
      cases k1 <;> cases k2 <;> simp only [Bool.not_true, Bool.not_false, Bool.and_self, Bool.and_true, Bool.true_and, Bool.false_and, Bool.and_false, reduceCtorEq] at hkk hk2 hk4
      all_goals
       go_enter Tryz.func40, Tryz.ntmps40
       go_wp2_with (first | (go_at_call 84; refine (HAL.out _).mono ?_; rintro e w2 ⟨rfl, hb9⟩) | fail)
       rw [HRR.out]
       refine bodyPost_ret (v := .tuple #[.int .i64 0, .int .i64 100]) (by simp [results, Tryz.results40, go_sem]) rfl ⟨rfl, hb9⟩
     ·have hnd : decide (n < 0) = false := decide_eq_false hn
      have hdc := seq_state (card := card) (c := c) ha (by omega)
      rw [<- HTB.out] at hdc
      have HSN := Lib.hid (fun W => HST.out n W (wfI (by omega) (by omega)))
      obtain ⟨T, hT⟩ : ∃ T, stateB card n = T := ⟨_, rfl⟩
      rw [hT] at hdc HSN
      obtain ⟨b, hb⟩ : ∃ b, decide (c = letU card) = b := ⟨_, rfl⟩
      have HB := Lib.hid hb
      have hq : (T.toList == s.toList) = b := by rw [str_beq, hdc, hb]
      have hq2 : (T.toList != s.toList) = !b := by unfold bne; rw [hq]
      clear hb hT hdc HST
      cases b
      ·have HRR : Hid (R = .tuple #[.int .i64 0, .int .i64 100]) := by
        unfold Hid; rw [<- HR.out, HSI.out, if_neg (of_decide_eq_false HB.out)]
        rfl
       clear ha
       cases k1 <;> cases k2 <;> simp only [Bool.not_true, Bool.not_false, Bool.and_self, Bool.and_true, Bool.true_and, Bool.false_and, Bool.and_false, reduceCtorEq] at hkk hk2 hk4
       all_goals
        go_enter Tryz.func40, Tryz.ntmps40
        go_wp2_with (first | (go_at_call 84; refine (HAL.out _).mono ?_; rintro e w2 ⟨rfl, hb9⟩) | (go_at_call 44; refine (HSN.out _).mono ?_; rintro e w3 ⟨rfl, hb10⟩) | fail)
        rw [HRR.out]
        refine bodyPost_ret (v := .tuple #[.int .i64 0, .int .i64 100]) (by simp [results, Tryz.results40, go_sem]) rfl ⟨rfl, hb9.trans (hb10.mono hb9.size)⟩
      ·have HRR : Hid (R = .tuple #[.int .i64 n, .int .i64 0]) := by
        unfold Hid; rw [<- HR.out, HSI.out, if_pos (of_decide_eq_true HB.out), ha]
        rw [Option.bind_some, if_pos (by omega)]
        rfl
       clear ha
       cases k1 <;> cases k2 <;> simp only [Bool.not_true, Bool.not_false, Bool.and_self, Bool.and_true, Bool.true_and, Bool.false_and, Bool.and_false, reduceCtorEq] at hkk hk2 hk4
       all_goals
        go_enter Tryz.func40, Tryz.ntmps40
        go_wp2_with (first | (go_at_call 84; refine (HAL.out _).mono ?_; rintro e w2 ⟨rfl, hb9⟩) | (go_at_call 44; refine (HSN.out _).mono ?_; rintro e w3 ⟨rfl, hb10⟩) | fail)
        rw [HRR.out]
        refine bodyPost_ret (v := .tuple #[.int .i64 n, .int .i64 0]) (by simp [results, Tryz.results40, go_sem]) rfl ⟨rfl, hb9.trans (hb10.mono hb9.size)⟩
end
end Go.Proofs.YtfgjimpmpckgpaaGreatDoor
