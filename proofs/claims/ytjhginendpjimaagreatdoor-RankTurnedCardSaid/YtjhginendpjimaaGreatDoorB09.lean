import Derived.Test.YtjhginendpjimaaGreatDoorB08
import Derived.BigQuiet
set_option linter.unusedSimpArgs false
set_option linter.unusedVariables false
set_option maxRecDepth 200000
set_option maxHeartbeats 8000000
namespace Go.Proofs.YtjhginendpjimaaGreatDoor
section
open Go Go.RowKit Go.OpenShut
theorem scpart_any (c : UInt8) (w : World) : Calls Tryz.prog 101 #[.int .u8 c.toNat] w fun e w' => e = .returned (.bool (partCh c)) /\ w' = w := by
 have h0 : (0 : Int) <= (c.toNat : Int) := Int.natCast_nonneg _
 by_cases a1 : 97 <= c.toNat <;> by_cases a2 : c.toNat <= 122 <;> by_cases a3 : 65 <= c.toNat <;> by_cases a4 : c.toNat <= 90 <;> by_cases a5 : 48 <= c.toNat <;> by_cases a6 : c.toNat <= 57 <;> by_cases a7 : c.toNat = 95
 all_goals first | (exfalso; omega) | skip
 all_goals
  have hp : Hid (partCh c = (decide (97 <= c.toNat) && decide (c.toNat <= 122) || decide (65 <= c.toNat) && decide (c.toNat <= 90) || decide (48 <= c.toNat) && decide (c.toNat <= 57) || decide (c.toNat = 95))) := rfl
  go_enter Tryz.func101, Tryz.ntmps101
  go_wp2_with fail
  go_ret
  refine ⟨?_, rfl⟩
  rw [hp.out]
  simp [a1, a2, a3, a4, a5, a6, a7] <;> omega
theorem ext_all (s : ByteArray) (i : Nat) : (s.extract i s.size).data.toList = s.data.toList.drop i := by
 rw [ext_list]
 exact List.take_of_length_le (by rw [List.length_drop, str_len]; omega)
theorem ScS.now {w W : World} {g i : Nat} {s : ByteArray} {l : List Tok} (h : ScS w W g s i l) (n : Nat) : ScS (W.drewN n) (W.drewN n) g s i l := by
 obtain ⟨v, h1, h2⟩ := h.ex
 exact ⟨⟨v, h1, h2.same (fun _ _ => rfl)⟩, Below.refl _ _⟩
theorem word_split {s wd : ByteArray} {i : Nat} (h : wordAt s i wd = true) : ∃ r, s.data.toList.drop i = wd.data.toList ++ r := by
 unfold wordAt at h
 rw [Bool.and_eq_true, decide_eq_true_eq] at h
 refine ⟨(s.data.toList.drop i).drop wd.size, ?_⟩
 conv => lhs; rw [<- List.take_append_drop wd.size (s.data.toList.drop i)]
 rw [h.1]
theorem word_any (w : World) (g i : Nat) (s wd : ByteArray) (l : List Tok) (hS : ScS w w g s i l) (hl : l.length <= 65536) (hs : s.size <= 65536) (hi : i < s.size) (hw : wd = wTrue \/ wd = wFalse \/ wd = wNull) (ha : wordAt s i wd = true) :
 Calls Tryz.prog 87 #[.pointer (some ⟨g, 0, none⟩)] w fun e w' => e = .returned (.bool true) /\ ScS w w' g s (i + wd.size) (l ++ [⟨2, 0, wd, i⟩]) := by
 obtain ⟨r, hr⟩ := word_split ha
 have hend : i + wd.size = s.size \/ (i + wd.size < s.size /\ partCh s[i + wd.size]! = false) := by
  unfold wordAt at ha
  rw [Bool.and_eq_true, Bool.or_eq_true, decide_eq_true_eq, Bool.and_eq_true, decide_eq_true_eq] at ha
  rcases ha.2 with h | h
  ·exact .inl h
  ·exact .inr ⟨of_decide_eq_true h.1, by simpa using h.2⟩
 obtain ⟨⟨v, h1, h2⟩, h3⟩ := hS
 have hgl := h1.lt
 have hA : Below w.heap.size w (w.alloc (.cells #[.string ⟨#[116, 114, 117, 101]⟩, .string ⟨#[102, 97, 108, 115, 101]⟩, .string ⟨#[110, 117, 108, 108]⟩] 9)) := (Below.refl _ _).alloc (Nat.le_refl _) _
 have hB : (w.alloc (.cells #[.string ⟨#[116, 114, 117, 101]⟩, .string ⟨#[102, 97, 108, 115, 101]⟩, .string ⟨#[110, 117, 108, 108]⟩] 9)).heap[w.heap.size]? = some (.cells #[.string ⟨#[116, 114, 117, 101]⟩, .string ⟨#[102, 97, 108, 115, 101]⟩, .string ⟨#[110, 117, 108, 108]⟩] 9 (0, 0)) := heap_alloc_at rfl
 have hs1 : (w.alloc (.cells #[.string ⟨#[116, 114, 117, 101]⟩, .string ⟨#[102, 97, 108, 115, 101]⟩, .string ⟨#[110, 117, 108, 108]⟩] 9)).heap.size = w.heap.size + 1 := by simp
 obtain ⟨W1, hW1⟩ : ∃ W1, w.alloc (.cells #[.string ⟨#[116, 114, 117, 101]⟩, .string ⟨#[102, 97, 108, 115, 101]⟩, .string ⟨#[110, 117, 108, 108]⟩] 9) = W1 := ⟨_, rfl⟩
 rw [hW1] at hA hB hs1
 have HS1 : Hid (ScS w W1 g s i l) := ⟨⟨v, h1.under hA h1.lt, h2.below hA (Nat.le_refl _)⟩, h3.trans (hA.mono (Nat.le_of_lt h1.lt))⟩
 have HZ : Hid (W1.heap.size = w.heap.size + 1 /\ g < w.heap.size) := ⟨hs1, h1.lt⟩
 have a0 : W1.cell? ⟨w.heap.size, 0, none⟩ = some (.string ⟨#[116, 114, 117, 101]⟩) := by rw [cell_of_row W1 w.heap.size 0 _ _ _ hB]; rfl
 have a1 : W1.cell? ⟨w.heap.size, 1, none⟩ = some (.string ⟨#[102, 97, 108, 115, 101]⟩) := by rw [cell_of_row W1 w.heap.size 1 _ _ _ hB]; rfl
 have a2 : W1.cell? ⟨w.heap.size, 2, none⟩ = some (.string ⟨#[110, 117, 108, 108]⟩) := by rw [cell_of_row W1 w.heap.size 2 _ _ _ hB]; rfl
 have s0 : W1.cell? ⟨g, 0, none⟩ = some (.string s) := (h1.under hA h1.lt).cell 0 rfl
 have s1 : W1.cell? ⟨g, 1, none⟩ = some (.int .i64 i) := (h1.under hA h1.lt).cell 1 rfl
 have zg : g < W1.heap.size := by omega
 have i0 : (0 : Int) <= (i : Int) := Int.natCast_nonneg _
 have i1 : (i : Int) <= (s.size : Int) := by omega
 have i2 : i < 4398046510976 := by omega
 have HR : Hid (s.data.toList.drop i = wd.data.toList ++ r) := hr
 have HEND : Hid (i + wd.size = s.size \/ (i + wd.size < s.size /\ partCh s[i + wd.size]! = false)) := hend
 have HW := Lib.hid hw
 have HL : Hid (l.length <= 65536 /\ s.size <= 65536) := ⟨hl, hs⟩
 obtain ⟨m, hm⟩ : ∃ m : Nat, (m = 0 /\ wd = wTrue) \/ (m = 1 /\ wd = wFalse) \/ (m = 2 /\ wd = wNull) := by
  rcases hw with h | h | h
  ·exact ⟨0, .inl ⟨rfl, h⟩⟩
  ·exact ⟨1, .inr (.inl ⟨rfl, h⟩)⟩
  ·exact ⟨2, .inr (.inr ⟨rfl, h⟩)⟩
 have HM := Lib.hid hm
 have hm2 : m <= 2 := by rcases hm with h | h | h <;> omega
 clear hr hend h1 h2 h3 hA hB hs1 hl hs hi ha hw hm
 go_enter Tryz.func87, Tryz.ntmps87
 go_upto_region 2 with fail
 try rw [hW1]
 clear hW1
 go_wp2_with fail
 go_loopw [8] (fun o wr => ∃ k : Nat, k <= m /\ o = .int .i64 (k : Int) /\ ∃ n, wr = W1.drewN n) (fun o _ => 3 - (intOf o).toNat)
 case atStart => exact ⟨0, Nat.zero_le _, rfl, 0, rfl⟩
 case round =>
  obtain ⟨k, hk, rfl, nr, rfl⟩ := hrel
  have hk3 : k = 0 \/ k = 1 \/ k = 2 := by omega
  rcases hk3 with rfl | rfl | rfl
  ·by_cases hkm : 0 = m
   ·subst hkm
    have hwd : wd = wTrue := by rcases HM.out with h | h | h <;> first | exact h.2 | (exfalso; omega)
    have HP : Hid (∀ n, Calls Tryz.prog 100 #[.string (s.extract i s.size), .string ⟨#[116, 114, 117, 101]⟩] (W1.drewN n) fun e w' => e = .returned (.bool true) /\ w' = W1.drewN n) := fun n => (strings_HasPrefix _ _ _).mono (fun e w' h => ⟨by rw [h.1, ext_all, HR.out, hwd]; simp [Lib.hasPrefix, wTrue, List.isPrefixOf], h.2⟩)
    have hen := HEND.out
    rw [hwd] at hen
    have hsz : (wTrue).size = 4 := rfl
    rw [hsz] at hen
    have HWD := Lib.hid hwd
    clear hwd
    rcases hen with hen | ⟨hen1, hen2⟩
    ·have q1 : (((i : Int) + 4) == (s.size : Int)) = true := by simp; omega
     go_wp2_with fail
     go_quiet ((go_at_call 100; exact (HP.out _).mono (fun e w' h => ⟨h.1, _, h.2⟩)))
     go_wp2_with fail
     refine (lay_any _ g i (i + 4) 0 0 s ⟨#[116, 114, 117, 101]⟩ 2 l (HS1.out.now _) HL.out.1).mono ?_
     rintro e w4 ⟨rfl, hS4⟩
     go_wp2_with fail
     go_ret
     refine ⟨rfl, ?_⟩
     rw [HWD.out]
     exact ⟨hS4.ex, HS1.out.below.trans ((bdn (Below.refl _ _) _).trans hS4.below)⟩
    ·have q1 : (((i : Int) + 4) == (s.size : Int)) = false := by simp; omega
     have HPT : Hid (∀ n, Calls Tryz.prog 101 #[.int .u8 s[i + 4].toNat] (W1.drewN n) fun e w' => e = .returned (.bool false) /\ w' = W1.drewN n) := fun n => (scpart_any _ _).mono (fun e w' h => ⟨by rw [h.1, <- get_bang s (i + 4) hen1, hen2], h.2⟩)
     have i3 : ((i : Int) + 4) < (s.size : Int) := by omega
     have i4 : (0 : Int) <= (i : Int) + 4 := by omega
     have i5 : ((i : Int) + 4).toNat = i + 4 := by omega
     go_wp2_with fail
     go_quiet (first | (go_at_call 100; exact (HP.out _).mono (fun e w' h => ⟨h.1, _, h.2⟩)) | (go_at_call 101; exact (HPT.out _).mono (fun e w' h => ⟨h.1, _, h.2⟩)))
     go_wp2_with fail
     refine (lay_any _ g i (i + 4) 0 0 s ⟨#[116, 114, 117, 101]⟩ 2 l (HS1.out.now _) HL.out.1).mono ?_
     rintro e w4 ⟨rfl, hS4⟩
     go_wp2_with fail
     go_ret
     refine ⟨rfl, ?_⟩
     rw [HWD.out]
     exact ⟨hS4.ex, HS1.out.below.trans ((bdn (Below.refl _ _) _).trans hS4.below)⟩
   ·have hlt : 0 < m := by omega
    have HP : Hid (∀ n, Calls Tryz.prog 100 #[.string (s.extract i s.size), .string ⟨#[116, 114, 117, 101]⟩] (W1.drewN n) fun e w' => e = .returned (.bool false) /\ w' = W1.drewN n) := fun n => (strings_HasPrefix _ _ _).mono (fun e w' h => ⟨by
     rw [h.1, ext_all, HR.out]
     rcases HM.out with h | h | h
     ·exfalso; omega
     ·rw [h.2]; first | (exfalso; omega) | simp [Lib.hasPrefix, wFalse, List.isPrefixOf]
     ·rw [h.2]; simp [Lib.hasPrefix, wNull, List.isPrefixOf], h.2⟩)
    go_wp2_with fail
    go_quiet ((go_at_call 100; exact (HP.out _).mono (fun e w' h => ⟨h.1, _, h.2⟩)))
    go_wp2_with fail
    go_roundw
    case rel => exact ⟨0 + 1, by omega, by go_num, _, rfl⟩
    case measure => first | (simp [intOf]; done) | (simp [intOf]; omega)
  ·by_cases hkm : 1 = m
   ·subst hkm
    have hwd : wd = wFalse := by rcases HM.out with h | h | h <;> first | exact h.2 | (exfalso; omega)
    have HP : Hid (∀ n, Calls Tryz.prog 100 #[.string (s.extract i s.size), .string ⟨#[102, 97, 108, 115, 101]⟩] (W1.drewN n) fun e w' => e = .returned (.bool true) /\ w' = W1.drewN n) := fun n => (strings_HasPrefix _ _ _).mono (fun e w' h => ⟨by rw [h.1, ext_all, HR.out, hwd]; simp [Lib.hasPrefix, wFalse, List.isPrefixOf], h.2⟩)
    have hen := HEND.out
    rw [hwd] at hen
    have hsz : (wFalse).size = 5 := rfl
    rw [hsz] at hen
    have HWD := Lib.hid hwd
    clear hwd
    rcases hen with hen | ⟨hen1, hen2⟩
    ·have q1 : (((i : Int) + 5) == (s.size : Int)) = true := by simp; omega
     go_wp2_with fail
     go_quiet ((go_at_call 100; exact (HP.out _).mono (fun e w' h => ⟨h.1, _, h.2⟩)))
     go_wp2_with fail
     refine (lay_any _ g i (i + 5) 0 0 s ⟨#[102, 97, 108, 115, 101]⟩ 2 l (HS1.out.now _) HL.out.1).mono ?_
     rintro e w4 ⟨rfl, hS4⟩
     go_wp2_with fail
     go_ret
     refine ⟨rfl, ?_⟩
     rw [HWD.out]
     exact ⟨hS4.ex, HS1.out.below.trans ((bdn (Below.refl _ _) _).trans hS4.below)⟩
    ·have q1 : (((i : Int) + 5) == (s.size : Int)) = false := by simp; omega
     have HPT : Hid (∀ n, Calls Tryz.prog 101 #[.int .u8 s[i + 5].toNat] (W1.drewN n) fun e w' => e = .returned (.bool false) /\ w' = W1.drewN n) := fun n => (scpart_any _ _).mono (fun e w' h => ⟨by rw [h.1, <- get_bang s (i + 5) hen1, hen2], h.2⟩)
     have i3 : ((i : Int) + 5) < (s.size : Int) := by omega
     have i4 : (0 : Int) <= (i : Int) + 5 := by omega
     have i5 : ((i : Int) + 5).toNat = i + 5 := by omega
     go_wp2_with fail
     go_quiet (first | (go_at_call 100; exact (HP.out _).mono (fun e w' h => ⟨h.1, _, h.2⟩)) | (go_at_call 101; exact (HPT.out _).mono (fun e w' h => ⟨h.1, _, h.2⟩)))
     go_wp2_with fail
     refine (lay_any _ g i (i + 5) 0 0 s ⟨#[102, 97, 108, 115, 101]⟩ 2 l (HS1.out.now _) HL.out.1).mono ?_
     rintro e w4 ⟨rfl, hS4⟩
     go_wp2_with fail
     go_ret
     refine ⟨rfl, ?_⟩
     rw [HWD.out]
     exact ⟨hS4.ex, HS1.out.below.trans ((bdn (Below.refl _ _) _).trans hS4.below)⟩
   ·have hlt : 1 < m := by omega
    have HP : Hid (∀ n, Calls Tryz.prog 100 #[.string (s.extract i s.size), .string ⟨#[102, 97, 108, 115, 101]⟩] (W1.drewN n) fun e w' => e = .returned (.bool false) /\ w' = W1.drewN n) := fun n => (strings_HasPrefix _ _ _).mono (fun e w' h => ⟨by
     rw [h.1, ext_all, HR.out]
     rcases HM.out with h | h | h
     ·exfalso; omega
     ·rw [h.2]; first | (exfalso; omega) | simp [Lib.hasPrefix, wFalse, List.isPrefixOf]
     ·rw [h.2]; simp [Lib.hasPrefix, wNull, List.isPrefixOf], h.2⟩)
    go_wp2_with fail
    go_quiet ((go_at_call 100; exact (HP.out _).mono (fun e w' h => ⟨h.1, _, h.2⟩)))
    go_wp2_with fail
    go_roundw
    case rel => exact ⟨1 + 1, by omega, by go_num, _, rfl⟩
    case measure => first | (simp [intOf]; done) | (simp [intOf]; omega)
  ·by_cases hkm : 2 = m
   ·subst hkm
    have hwd : wd = wNull := by rcases HM.out with h | h | h <;> first | exact h.2 | (exfalso; omega)
    have HP : Hid (∀ n, Calls Tryz.prog 100 #[.string (s.extract i s.size), .string ⟨#[110, 117, 108, 108]⟩] (W1.drewN n) fun e w' => e = .returned (.bool true) /\ w' = W1.drewN n) := fun n => (strings_HasPrefix _ _ _).mono (fun e w' h => ⟨by rw [h.1, ext_all, HR.out, hwd]; simp [Lib.hasPrefix, wNull, List.isPrefixOf], h.2⟩)
    have hen := HEND.out
    rw [hwd] at hen
    have hsz : (wNull).size = 4 := rfl
    rw [hsz] at hen
    have HWD := Lib.hid hwd
    clear hwd
    rcases hen with hen | ⟨hen1, hen2⟩
    ·have q1 : (((i : Int) + 4) == (s.size : Int)) = true := by simp; omega
     go_wp2_with fail
     go_quiet ((go_at_call 100; exact (HP.out _).mono (fun e w' h => ⟨h.1, _, h.2⟩)))
     go_wp2_with fail
     refine (lay_any _ g i (i + 4) 0 0 s ⟨#[110, 117, 108, 108]⟩ 2 l (HS1.out.now _) HL.out.1).mono ?_
     rintro e w4 ⟨rfl, hS4⟩
     go_wp2_with fail
     go_ret
     refine ⟨rfl, ?_⟩
     rw [HWD.out]
     exact ⟨hS4.ex, HS1.out.below.trans ((bdn (Below.refl _ _) _).trans hS4.below)⟩
    ·have q1 : (((i : Int) + 4) == (s.size : Int)) = false := by simp; omega
     have HPT : Hid (∀ n, Calls Tryz.prog 101 #[.int .u8 s[i + 4].toNat] (W1.drewN n) fun e w' => e = .returned (.bool false) /\ w' = W1.drewN n) := fun n => (scpart_any _ _).mono (fun e w' h => ⟨by rw [h.1, <- get_bang s (i + 4) hen1, hen2], h.2⟩)
     have i3 : ((i : Int) + 4) < (s.size : Int) := by omega
     have i4 : (0 : Int) <= (i : Int) + 4 := by omega
     have i5 : ((i : Int) + 4).toNat = i + 4 := by omega
     go_wp2_with fail
     go_quiet (first | (go_at_call 100; exact (HP.out _).mono (fun e w' h => ⟨h.1, _, h.2⟩)) | (go_at_call 101; exact (HPT.out _).mono (fun e w' h => ⟨h.1, _, h.2⟩)))
     go_wp2_with fail
     refine (lay_any _ g i (i + 4) 0 0 s ⟨#[110, 117, 108, 108]⟩ 2 l (HS1.out.now _) HL.out.1).mono ?_
     rintro e w4 ⟨rfl, hS4⟩
     go_wp2_with fail
     go_ret
     refine ⟨rfl, ?_⟩
     rw [HWD.out]
     exact ⟨hS4.ex, HS1.out.below.trans ((bdn (Below.refl _ _) _).trans hS4.below)⟩
   ·exfalso; omega
end
end Go.Proofs.YtjhginendpjimaaGreatDoor
