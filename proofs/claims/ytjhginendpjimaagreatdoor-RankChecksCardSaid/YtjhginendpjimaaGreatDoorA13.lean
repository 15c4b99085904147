import Derived.Test.YtjhginendpjimaaGreatDoorA12
import Derived.Sort.LotA
import Derived.Shelf.SlSortCmp.Insertion
import Derived.Test.YtjhginendpjimaaGreatDoorProg
import Derived.Shelf.SlSortCmp.KitK
import Derived.Sort.WalkB2
import Derived.Sort.WalkB12
import Derived.Deep.LoopGhost
import Derived.WalkKit
import Derived.Lib.Hide
import Derived.Shelf.SlSortCmp.QuietGrown
import Derived.Deep.Cut
import Derived.Deep.CutRange
import Derived.Test.YtjhginendpjimaaGreatDoorA00
import Derived.Sort.OwnSorted
import Derived.Lib.Strings
import Derived.Lib.Bytealg
import Derived.Test.YtjhginendpjimaaGreatDoorA02
import Derived.Test.YtjhginendpjimaaGreatDoorA10
set_option linter.unusedSimpArgs false
set_option linter.unusedVariables false
set_option maxRecDepth 200000
set_option maxHeartbeats 8000000
namespace Go.Proofs.YtjhginendpjimaaGreatDoor
section
open Go Go.RowKit Go.OpenShut
theorem tl_form {t : List UInt8} (h : tlOk t = true) : t = [90] \/ ∃ D, t = 46 :: (D ++ [90]) /\ D ≠ [] /\ D.all digU = true /\ D.length <= 9 := by
 unfold tlOk at h
 simp only [Bool.or_eq_true, Bool.and_eq_true, decide_eq_true_eq] at h
 rcases h with h | ⟨h1, h2, h3, h4, _, h6⟩
 ·exact .inl h
 ·obtain ⟨c, r, rfl, hr⟩ := one_more (k := 2) (l := t) (by omega)
  have hne : r ≠ [] := fun e => by rw [e] at hr; simp at hr
  obtain ⟨D, z, rfl⟩ : ∃ D z, r = D ++ [z] := ⟨r.dropLast, r.getLast hne, (List.dropLast_concat_getLast hne).symm⟩
  simp only [List.length_append, List.length_cons, List.length_nil] at hr h1 h2 h4 h6
  have hc : c = 46 := by simpa using h3
  have hz : z = 90 := by
   rw [show D.length + (0 + 1) + 1 - 1 = (D.length + 0) + 1 by omega, List.getElem?_cons_succ, List.getElem?_append_right (by omega), show D.length - D.length = 0 by omega] at h4
   simpa using h4
  rw [List.drop_succ_cons, List.drop_zero, show D.length + (0 + 1) + 1 - 2 = D.length by omega, List.take_left] at h6
  subst hc
  subst hz
  refine .inr ⟨D, rfl, fun e => ?_, h6, by omega⟩
  rw [e] at hr
  simp at hr
theorem dig_not {c : UInt8} (h : digU c = true) : ([46, 90] : List UInt8).contains c = false := by
 cases hc : ([46, 90] : List UInt8).contains c with
 | false => rfl
 | true =>
   have : c ∈ ([46, 90] : List UInt8) := List.contains_iff_mem.1 hc
   simp at this
   rcases this with rfl | rfl
   ·cases h
   ·cases h
theorem dropW_stop {l : List UInt8} (hd : l ≠ []) (h : l.all digU = true) (r : List UInt8) : (l ++ r).dropWhile (([46, 90] : List UInt8).contains ·) = l ++ r := by
 cases l with
 | nil => exact absurd rfl hd
 | cons a m =>
   rw [List.all_cons, Bool.and_eq_true] at h
   rw [List.cons_append, List.dropWhile_cons, if_neg (by rw [dig_not h.1]; decide)]
theorem trim_form {D : List UInt8} (hd : D ≠ []) (h : D.all digU = true) : Lib.trimS (46 :: (D ++ [90])) [46, 90] = D := by
 unfold Lib.trimS Lib.trimLeftS Lib.trimRightS
 have e1 : (46 :: (D ++ [90])).reverse = 90 :: (D.reverse ++ [46]) := by simp
 have e2 : (90 :: (D.reverse ++ [46])).dropWhile (([46, 90] : List UInt8).contains ·) = D.reverse ++ [46] := by
  rw [List.dropWhile_cons, if_pos (by decide)]
  exact dropW_stop (by simpa using hd) (by rw [List.all_reverse]; exact h) _
 rw [e1, e2, List.reverse_append, List.reverse_reverse]
 show (46 :: D).dropWhile _ = D
 rw [List.dropWhile_cons, if_pos (by decide)]
 have := dropW_stop hd h []
 rw [List.append_nil] at this
 exact this
theorem no_dot : ∀ f ∈ formL, posOk f 46 = false := by decide
theorem hd_count {l : List UInt8} (h : hdOk l = true) : (l.take 19).count 46 = 0 := by
 rw [List.count_eq_zero]
 intro hm
 obtain ⟨i, hi, he⟩ := List.mem_iff_getElem.1 hm
 rw [List.length_take] at hi
 have hil : i < 19 := by omega
 have hl : l[i]? = some 46 := by
  rw [List.getElem_take] at he
  rw [<- he]
  exact List.getElem?_eq_getElem _
 obtain ⟨f, hf⟩ := form_get ⟨i, hil⟩
 unfold hdOk at h
 rw [Bool.and_eq_true] at h
 have hz : (formL.zip l)[i]? = some (f, 46) := by rw [List.getElem?_zip_eq_some]; exact ⟨hf, hl⟩
 have h2 := List.all_eq_true.1 h.2 _ (List.mem_of_getElem? hz)
 dsimp only at h2
 rw [no_dot f (List.mem_of_getElem? hf)] at h2
 cases h2
theorem dig_count {D : List UInt8} (h : D.all digU = true) : D.count 46 = 0 := by
 rw [List.count_eq_zero]
 intro hm
 have := List.all_eq_true.1 h _ hm
 cases this
theorem part_law {l : List UInt8} (hh : hdOk l = true) (ht : tlOk (l.drop 19) = true) : Lib.trimS (l.drop 19) [46, 90] = (l.drop 20).take (l.length - 21) /\ (11 : Int) - (l.length - 19 : Nat) + (l.count 46 : Nat) = ((10 - (l.length - 21) : Nat) : Int) /\ 20 <= l.length /\ l.length <= 30 := by
 have hc := hd_count hh
 have hs : l.count 46 = (l.drop 19).count 46 := by
  conv => lhs; rw [<- List.take_append_drop 19 l]
  rw [List.count_append, hc, Nat.zero_add]
 have hdr : l.drop 20 = (l.drop 19).drop 1 := by rw [List.drop_drop]
 have hlen : (l.drop 19).length = l.length - 19 := List.length_drop
 rw [hs, hdr]
 rcases tl_form ht with h | ⟨D, h, h1, h2, h3⟩
 ·rw [h] at hlen ⊢
  have : l.length = 20 := by simp at hlen; omega
  rw [this]
  exact ⟨by decide, by decide, by omega, by omega⟩
 ·rw [h] at hlen ⊢
  have hl : l.length = 21 + D.length := by simp at hlen; omega
  have hn : 1 <= D.length := by
   cases D with
   | nil => exact absurd rfl h1
   | cons a r => simp
  refine ⟨?_, ?_, by omega, by omega⟩
  ·rw [trim_form h1 h2, hl, List.drop_succ_cons, List.drop_zero, show 21 + D.length - 21 = D.length by omega, List.take_left]
  ·rw [List.count_cons, List.count_append, dig_count h2, hl]
   show (11 : Int) - ((21 + D.length - 19 : Nat) : Int) + 1 = _
   omega
theorem repeatL_one (c : UInt8) (n : Nat) : Lib.repeatL [c] n = List.replicate n c := by
 induction n with
 | zero => rfl
 | succ n ih => rw [List.replicate_succ, <- ih]; rfl
theorem part_any (s : ByteArray) (w : World) (hh : hdOk s.data.toList = true) (ht : tlOk (s.data.toList.drop 19) = true) : Calls Tryz.prog 93 #[.string s] w fun e w' => e = .returned (.string ⟨(partF s.data.toList).toArray⟩) /\ Below w.heap.size w w' := by
 obtain ⟨h1, h2, h3, h4⟩ := part_law hh ht
 have hsz : s.data.toList.length = s.size := by rw [Array.length_toList]; rfl
 rw [hsz] at h1 h2 h3 h4
 have h19 : 19 <= s.size := by omega
 have h19' : (19 : Int) <= (s.size : Int) := by omega
 have HTR : Hid (∀ W, Calls Tryz.prog 107 #[.string (s.extract 19 s.size), .string ⟨#[46, 90]⟩] W fun e w' => e = .returned (.string ⟨((s.data.toList.drop 20).take (s.size - 21)).toArray⟩) /\ Below W.heap.size W w') := fun W =>
  (Any.strings_Trim_laid lays160 (by kernel_rfl) (s.extract 19 s.size) ⟨#[46, 90]⟩ W (by rw [<- str_len, Lib.extract_data]; simp; omega) (by decide) (fun j b h => by
   have hall : ([46, 90] : List UInt8).all (fun b => decide (b.toNat < 128)) = true := by decide
   exact of_decide_eq_true (List.all_eq_true.1 hall b (List.mem_of_getElem? h)))).mono (fun e w' h => by
    rw [Lib.extract_data, List.take_of_length_le (by rw [List.length_drop, hsz]; omega)] at h
    refine ⟨h.1.trans ?_, h.2⟩
    rw [<- h1])
 have HCO : Hid (∀ W, Calls Tryz.prog 109 #[.string s, .string ⟨#[46]⟩] W fun e w' => e = .returned (.int .i64 ((s.data.toList.count 46 : Nat) : Int)) /\ W = w') := fun W => (strings_Count_one s 46 W).mono (fun e w' h => ⟨h.1, h.2.symm⟩)
 have HRP : Hid (∀ W, Calls Tryz.prog 108 #[.string ⟨#[48]⟩, .int .i64 ((10 - (s.size - 21) : Nat) : Int)] W fun e w' => e = .returned (.string ⟨(List.replicate (10 - (s.size - 21)) 48).toArray⟩) /\ Below W.heap.size W w') := fun W => (strings_Repeat ⟨#[48]⟩ _ W (by omega) (by show 1 * _ <= _; omega)).mono (fun e w' h => ⟨h.1.trans (by rw [show (⟨#[48]⟩ : ByteArray).data.toList = [48] from rfl, repeatL_one]), h.2⟩)
 have HPF : Hid ((⟨(partF s.data.toList).toArray⟩ : ByteArray) = ⟨((s.data.toList.drop 20).take (s.size - 21)).toArray⟩ ++ ⟨(List.replicate (10 - (s.size - 21)) 48).toArray⟩) := by
  unfold Hid partF
  rw [hsz]
  apply ByteArray.ext
  simp
 obtain ⟨c, hc⟩ : ∃ c : Nat, s.data.toList.count 46 = c := ⟨_, rfl⟩
 obtain ⟨T, hT⟩ : ∃ T : ByteArray, ⟨((s.data.toList.drop 20).take (s.size - 21)).toArray⟩ = T := ⟨_, rfl⟩
 obtain ⟨Q, hQ⟩ : ∃ Q : ByteArray, ⟨(List.replicate (10 - (s.size - 21)) 48).toArray⟩ = Q := ⟨_, rfl⟩
 have hTs : T.size <= 10 := by rw [<- hT, <- str_len]; simp; try omega
 have hQs : Q.size <= 10 := by rw [<- hQ, <- str_len]; simp; try omega
 rw [hT] at HTR HPF
 rw [hQ] at HRP HPF
 rw [hc] at HCO h2
 have HN := Lib.hid h2
 have hcb : (c : Int) <= 1000 := by omega
 have hc0 : (0 : Int) <= (c : Int) := Int.natCast_nonneg _
 have hw : IntKind.i64.wrap (IntKind.i64.wrap (11 - ((s.size - 19 : Nat) : Int)) + (c : Int)) = ((10 - (s.size - 21) : Nat) : Int) := by
  rw [<- h2]
  have b : ((s.size - 19 : Nat) : Int) <= 11 := by omega
  have b0 : (0 : Int) <= ((s.size - 19 : Nat) : Int) := Int.natCast_nonneg _
  generalize ((s.size - 19 : Nat) : Int) = n at b b0
  rw [IntKind.wrap_i64 (11 - n), IntKind.wrap_i64]; omega
 rw [<- hw] at HRP
 clear hT hQ hc h1 h2 hsz hh ht hw HN
 go_enter Tryz.func93, Tryz.ntmps93
 go_upto_region 1 with fail
 go_region_with
  (first
   | (go_at_call 107; refine (HTR.out _).mono ?_; rintro e w1 ⟨rfl, hb1⟩)
   | (go_at_call 109; refine (HCO.out _).mono ?_; rintro e w2 ⟨rfl, rfl⟩)
   | (go_at_call 108; refine (HRP.out _).mono ?_; rintro e w3 ⟨rfl, hb3⟩)
   | fail)
 all_goals
  first
   | go_ret
   | (go_wp2_with fail; go_ret)
  refine ⟨by rw [HPF.out]; rfl, ?_⟩
  first
   | exact (((Below.refl _ _).drew).trans (hb1.mono (Nat.le_refl _))).trans (hb3.mono hb1.size)
   | exact (hb1.trans (hb3.mono hb1.size))
   | (trace_state; fail)
theorem comp_any (a b : ByteArray) (W : World) : Calls Tryz.prog 90 #[.string a, .string b] W fun e w' => e = .returned (.int .i64 (Lib.compareBytes a.data.toList b.data.toList)) /\ W = w' := (strings_Compare a b W).mono (fun e w' h => ⟨h.1, h.2.symm⟩)
theorem scomp_any (s t : ByteArray) (w : World) (hs : s.size <= maxLen) (ht : t.size <= maxLen) : Calls Tryz.prog 74 #[.string s, .string t] w fun e w' => e = .returned (.int .i64 (cmpS s.data.toList t.data.toList)) /\ Below w.heap.size w w' := by
 have HSA : Hid (∀ W, Calls Tryz.prog 92 #[.string s] W fun e w' => e = .returned (secRet (secF s.data.toList)) /\ Below W.heap.size W w') := fun W => seconds_any s W hs
 have HSB : Hid (∀ W, Calls Tryz.prog 92 #[.string t] W fun e w' => e = .returned (secRet (secF t.data.toList)) /\ Below W.heap.size W w') := fun W => seconds_any t W ht
 have HCM : Hid (∀ W, Calls Tryz.prog 90 #[.string s, .string t] W fun e w' => e = .returned (.int .i64 (Lib.compareBytes s.data.toList t.data.toList)) /\ W = w') := fun W => comp_any s t W
 have HR : Hid (cmpS s.data.toList t.data.toList = match secF s.data.toList, secF t.data.toList with
  | none, none => Go.Lib.compareBytes s.data.toList t.data.toList
  | none, some _ => -1
  | some _, none => 1
  | some x, some y => if x < y then -1 else if y < x then 1 else Go.Lib.compareBytes (partF s.data.toList) (partF t.data.toList)) := rfl
 obtain ⟨R, hR⟩ : ∃ R, cmpS s.data.toList t.data.toList = R := ⟨_, rfl⟩
 rw [hR] at HR
 rw [hR]
 clear hR
 have HPA : Hid (∀ x, secF s.data.toList = some x -> ∀ W, Calls Tryz.prog 93 #[.string s] W fun e w' => e = .returned (.string ⟨(partF s.data.toList).toArray⟩) /\ Below W.heap.size W w') := fun x h W => part_any s W (secF_tl h).1 (secF_tl h).2
 have HPB : Hid (∀ x, secF t.data.toList = some x -> ∀ W, Calls Tryz.prog 93 #[.string t] W fun e w' => e = .returned (.string ⟨(partF t.data.toList).toArray⟩) /\ Below W.heap.size W w') := fun x h W => part_any t W (secF_tl h).1 (secF_tl h).2
 have HCP : Hid (∀ W, Calls Tryz.prog 90 #[.string ⟨(partF s.data.toList).toArray⟩, .string ⟨(partF t.data.toList).toArray⟩] W fun e w' => e = .returned (.int .i64 (Lib.compareBytes (partF s.data.toList) (partF t.data.toList))) /\ W = w') := fun W => comp_any _ _ W
 obtain ⟨PA, hPA⟩ : ∃ P : ByteArray, ⟨(partF s.data.toList).toArray⟩ = P := ⟨_, rfl⟩
 obtain ⟨PB, hPB⟩ : ∃ P : ByteArray, ⟨(partF t.data.toList).toArray⟩ = P := ⟨_, rfl⟩
 obtain ⟨cp, hcp⟩ : ∃ n, Go.Lib.compareBytes (partF s.data.toList) (partF t.data.toList) = n := ⟨_, rfl⟩
 obtain ⟨cm, hcm⟩ : ∃ n, Go.Lib.compareBytes s.data.toList t.data.toList = n := ⟨_, rfl⟩
 rw [hPA] at HPA HCP
 rw [hPB] at HPB HCP
 rw [hcp] at HCP HR
 rw [hcm] at HCM HR
 obtain ⟨oa, hoa⟩ : ∃ o, secF s.data.toList = o := ⟨_, rfl⟩
 obtain ⟨ob, hob⟩ : ∃ o, secF t.data.toList = o := ⟨_, rfl⟩
 rw [hoa] at HSA HPA HR
 rw [hob] at HSB HPB HR
 clear hPA hPB hcp hcm hoa hob hs ht
 cases oa with
 | none => cases ob with
   | none =>
     have HRR : Hid (R = cm) := HR.out
     clear HR HPA HPB HCP
     unfold secRet at HSA HSB
     go_enter Tryz.func74, Tryz.ntmps74
     go_wp2_with (first | (go_at_call 92; with_reducible refine (HSA.out _).mono ?_; rintro e w1 ⟨rfl, hb1⟩) | (go_at_call 92; with_reducible refine (HSB.out _).mono ?_; rintro e w2 ⟨rfl, hb2⟩) | (go_at_call 90; refine (HCM.out _).mono ?_; rintro e w3 ⟨rfl, rfl⟩) | fail)
     rw [HRR.out]
     go_ret
     exact ⟨rfl, hb1.trans (hb2.mono hb1.size)⟩
   | some y =>
     have HRR : Hid (R = -1) := HR.out
     clear HR HPA HPB HCP HCM
     unfold secRet at HSA HSB
     go_enter Tryz.func74, Tryz.ntmps74
     go_wp2_with (first | (go_at_call 92; with_reducible refine (HSA.out _).mono ?_; rintro e w1 ⟨rfl, hb1⟩) | (go_at_call 92; with_reducible refine (HSB.out _).mono ?_; rintro e w2 ⟨rfl, hb2⟩) | fail)
     rw [HRR.out]
     go_ret
     exact ⟨rfl, hb1.trans (hb2.mono hb1.size)⟩
 | some x => cases ob with
   | none =>
     have HRR : Hid (R = 1) := HR.out
     clear HR HPA HPB HCP HCM
     unfold secRet at HSA HSB
     go_enter Tryz.func74, Tryz.ntmps74
     go_wp2_with (first | (go_at_call 92; with_reducible refine (HSA.out _).mono ?_; rintro e w1 ⟨rfl, hb1⟩) | (go_at_call 92; with_reducible refine (HSB.out _).mono ?_; rintro e w2 ⟨rfl, hb2⟩) | fail)
     rw [HRR.out]
     go_ret
     exact ⟨rfl, hb1.trans (hb2.mono hb1.size)⟩
   | some y =>
     have HQA := Lib.hid (HPA.out x rfl)
     have HQB := Lib.hid (HPB.out y rfl)
     clear HPA HPB HCM
     unfold secRet at HSA HSB
     by_cases hxy : x < y
     ·have HRR : Hid (R = -1) := HR.out.trans (if_pos hxy)
      have q1 : decide (x < y) = true := decide_eq_true hxy
      clear HR HCP HQA HQB
      go_enter Tryz.func74, Tryz.ntmps74
      go_wp2_with (first | (go_at_call 92; with_reducible refine (HSA.out _).mono ?_; rintro e w1 ⟨rfl, hb1⟩) | (go_at_call 92; with_reducible refine (HSB.out _).mono ?_; rintro e w2 ⟨rfl, hb2⟩) | fail)
      rw [HRR.out]
      go_ret
      exact ⟨rfl, hb1.trans (hb2.mono hb1.size)⟩
     ·have q1 : decide (x < y) = false := decide_eq_false hxy
      by_cases hyx : y < x
      ·have HRR : Hid (R = 1) := HR.out.trans ((if_neg hxy).trans (if_pos hyx))
       have q2 : decide (y < x) = true := decide_eq_true hyx
       clear HR HCP HQA HQB
       go_enter Tryz.func74, Tryz.ntmps74
       go_wp2_with (first | (go_at_call 92; with_reducible refine (HSA.out _).mono ?_; rintro e w1 ⟨rfl, hb1⟩) | (go_at_call 92; with_reducible refine (HSB.out _).mono ?_; rintro e w2 ⟨rfl, hb2⟩) | fail)
       rw [HRR.out]
       go_ret
       exact ⟨rfl, hb1.trans (hb2.mono hb1.size)⟩
      ·have HRR : Hid (R = cp) := HR.out.trans ((if_neg hxy).trans (if_neg hyx))
       have q2 : decide (y < x) = false := decide_eq_false hyx
       clear HR
       go_enter Tryz.func74, Tryz.ntmps74
       go_wp2_with (first | (go_at_call 92; with_reducible refine (HSA.out _).mono ?_; rintro e w1 ⟨rfl, hb1⟩) | (go_at_call 92; with_reducible refine (HSB.out _).mono ?_; rintro e w2 ⟨rfl, hb2⟩) | (go_at_call 93; with_reducible refine (HQA.out _).mono ?_; rintro e w3 ⟨rfl, hb3⟩) | (go_at_call 93; with_reducible refine (HQB.out _).mono ?_; rintro e w4 ⟨rfl, hb4⟩) | (go_at_call 90; refine (HCP.out _).mono ?_; rintro e w5 ⟨rfl, rfl⟩) | fail)
       rw [HRR.out]
       go_ret
       have h12 := hb1.trans (hb2.mono hb1.size)
       have h123 := h12.trans (hb3.mono h12.size)
       exact ⟨rfl, h123.trans (hb4.mono h123.size)⟩
end
section
open Go.Sort Go.Proofs
variable {α : Type} [Inhabited α] {lt l1 l2 : α -> α -> Bool}
def OKb (lt : α -> α -> Bool) (tg : α -> Nat) (d : Array α) (lo hi : Nat) : Prop := SortedIn lt lo hi d /\ ∀ t, lo <= t -> t < hi -> lo <= tg d[t]! /\ tg d[t]! < hi
theorem OKb.out {tg : α -> Nat} {d d' : Array α} {lo hi a b : Nat} (h : OKb lt tg d lo hi) (hp : PermIn a b d d') (ho : hi <= a \/ b <= lo) : OKb lt tg d' lo hi := by
 refine ⟨fun i j h1 h2 h3 => ?_, fun t h1 h2 => ?_⟩
 ·rw [hp.2.1 i (by omega), hp.2.1 j (by omega)]; exact h.1 i j h1 h2 h3
 ·rw [hp.2.1 t (by omega)]; exact h.2 t h1 h2
def BlkFrom (lt : α -> α -> Bool) (tg : α -> Nat) (bs n q0 : Nat) (d : Array α) : Prop := ∀ q, q0 <= q -> q * bs < n -> OKb lt tg d (q * bs) (min (q * bs + bs) n)
def BlkTo (lt : α -> α -> Bool) (tg : α -> Nat) (bs n q0 : Nat) (d : Array α) : Prop := ∀ q, q < q0 -> q * bs < n -> OKb lt tg d (q * bs) (min (q * bs + bs) n)
theorem BlkTo.step {tg : α -> Nat} {bs n q : Nat} {d d' : Array α} (h : BlkTo lt tg bs n q d) (hp : PermIn (q * bs) (min (q * bs + bs) n) d d') (hn : OKb lt tg d' (q * bs) (min (q * bs + bs) n)) : BlkTo lt tg bs n (q + 1) d' := by
 intro p hpq hpn
 by_cases e : p = q
 ·rw [e]; exact hn
 ·refine (h p (by omega) hpn).out hp (.inl ?_)
  have : (p + 1) * bs <= q * bs := Nat.mul_le_mul_right _ (by omega)
  rw [Nat.add_mul, Nat.one_mul] at this
  exact Nat.le_trans (Nat.min_le_left _ _) this
theorem BlkFrom.step {tg : α -> Nat} {bs n q hi : Nat} {d d' : Array α} {lo : Nat} (h : BlkFrom lt tg bs n q d) (hp : PermIn lo hi d d') (q' : Nat) (hq : q <= q') (hhi : hi <= q' * bs) : BlkFrom lt tg bs n q' d' := by
 intro p hpq hpn
 refine (h p (by omega) hpn).out hp (.inr ?_)
 exact Nat.le_trans hhi (Nat.mul_le_mul_right _ hpq)
theorem BlkTo.all {tg : α -> Nat} {bs n q : Nat} {d : Array α} (h : BlkTo lt tg bs n q d) (hq : n <= q * bs) : BlkFrom lt tg bs n 0 d := fun p _ hpn => h p (by
 apply Nat.lt_of_not_le
 intro hc
 have := Nat.mul_le_mul_right bs hc
 omega) hpn
section
variable {tg : α -> Nat} {cf : α -> α -> Int} {d d0 : Array α} {n q bs a : Nat}
end
variable {β : Type} {cf : β -> β -> Int}
def tlt (cf : β -> β -> Int) (x y : β × Nat) : Bool := decide (cf x.1 y.1 < 0) || (!decide (cf y.1 x.1 < 0) && decide (x.2 < y.2))
theorem tlt_iff (x y : β × Nat) : tlt cf x y = true ↔ (cf x.1 y.1 < 0 \/ (¬ cf y.1 x.1 < 0 /\ x.2 < y.2)) := by simp [tlt]
structure Cmp (cf : β -> β -> Int) : Prop where
 irrefl : ∀ x, ¬ cf x x < 0
 asymm : ∀ x y, cf x y < 0 -> ¬ cf y x < 0
 ntrans : ∀ x y z, ¬ cf x y < 0 -> ¬ cf y z < 0 -> ¬ cf x z < 0
theorem Cmp.trans (C : Cmp cf) {x y z : β} (h1 : cf x y < 0) (h2 : cf y z < 0) : cf x z < 0 := by
 by_cases h : cf x z < 0
 ·exact h
 ·exact absurd h1 (C.ntrans x z y h (C.asymm _ _ h2))
theorem Cmp.lt_of_lt_of_le (C : Cmp cf) {x y z : β} (h1 : cf x y < 0) (h2 : ¬ cf z y < 0) : cf x z < 0 := by
 by_cases h : cf x z < 0
 ·exact h
 ·exact absurd h1 (C.ntrans x z y h h2)
def IsStable (cf : β -> β -> Int) (xs ys : List β) : Prop :=
 ∃ ts : List (β × Nat), ts.Perm xs.zipIdx /\ ts.Pairwise (fun x y => tlt cf x y = true) /\ ys = ts.map (·.1)
theorem IsStable.perm {xs ys : List β} (h : IsStable cf xs ys) : ys.Perm xs := by
 obtain ⟨ts, p, _, rfl⟩ := h
 have := p.map (·.1)
 rwa [List.zipIdx_map_fst] at this
theorem IsStable.nil : IsStable cf [] [] := ⟨[], by simp, List.Pairwise.nil, rfl⟩
theorem IsStable.snoc (C : Cmp cf) {xs A B : List β} (h : IsStable cf xs (A ++ B)) {p : β} (hA : ∀ a, A.getLast? = some a -> ¬ cf p a < 0) (hB : ∀ b ∈ B, cf p b < 0) : IsStable cf (xs ++ [p]) (A ++ p :: B) := by
 obtain ⟨ts, hp, hs, he⟩ := h
 obtain ⟨tA, tB, rfl, rfl, rfl⟩ : ∃ tA tB, ts = tA ++ tB /\ A = tA.map (·.1) /\ B = tB.map (·.1) := by
  obtain ⟨tA, tB, h1, h2, h3⟩ := List.map_eq_append_iff.1 he.symm
  exact ⟨tA, tB, h1, h2.symm, h3.symm⟩
 rw [List.pairwise_append] at hs
 obtain ⟨sA, sB, sAB⟩ := hs
 have htag : ∀ x ∈ tA ++ tB, x.2 < xs.length := fun x hx => by
  have := hp.mem_iff.1 hx
  have := List.mem_zipIdx this
  omega
 refine ⟨tA ++ (p, xs.length) :: tB, ?_, ?_, by simp⟩
 ·have h1 : (tA ++ (p, xs.length) :: tB).Perm ((p, xs.length) :: (tA ++ tB)) := List.perm_middle
  rw [List.zipIdx_append]
  refine h1.trans (((List.perm_cons _).2 hp).trans ?_)
  have : [p].zipIdx xs.length = [(p, xs.length)] := rfl
  simp only [Nat.zero_add, this]
  exact (List.perm_append_singleton _ _).symm
 ·rw [List.pairwise_append]
  refine ⟨sA, ?_, ?_⟩
  ·rw [List.pairwise_cons]
   exact ⟨fun b hb => by rw [tlt_iff]; exact .inl (hB b.1 (List.mem_map.2 ⟨b, hb, rfl⟩)), sB⟩
  ·intro a ha b hb
   rcases List.mem_cons.1 hb with rfl | hb
   ·rw [tlt_iff]
    right
    refine ⟨?_, htag a (by simp [ha])⟩
    cases hl : tA.getLast? with
    | none => rw [List.getLast?_eq_none_iff] at hl; rw [hl] at ha; cases ha
    | some z =>
      have hz := hA z.1 (by rw [List.getLast?_map, hl]; rfl)
      obtain ⟨t0, rfl⟩ := List.getLast?_eq_some_iff.1 hl
      rw [List.pairwise_append] at sA
      rcases List.mem_append.1 ha with ha | ha
      ·have := sA.2.2 a ha z (by simp)
       exact C.ntrans _ _ _ hz (by rw [tlt_iff] at this; rcases this with h | h; exact C.asymm _ _ h; exact h.1)
      ·simp at ha; rw [ha]; exact hz
   ·exact sAB a ha b hb
end
section
open Go.Shelf Go.RowKit Go.Lib Go.Sort
theorem cmpB_self : ∀ a : List UInt8, compareBytes a a = 0
 | [] => rfl
 | x :: a => by
   have h : ¬ x < x := UInt8.lt_irrefl x
   unfold compareBytes
   rw [if_neg h, if_neg h, cmpB_self a]
theorem cmpB_neg : ∀ a b : List UInt8, compareBytes b a = - compareBytes a b
 | [], [] => rfl
 | [], _ :: _ => rfl
 | _ :: _, [] => rfl
 | x :: a, y :: b => by
   have ih := cmpB_neg a b
   unfold compareBytes
   by_cases h1 : x < y
   ·have h2 : ¬ y < x := fun h => UInt8.lt_irrefl x (UInt8.lt_trans h1 h)
    simp [h1, h2]
   ·by_cases h2 : y < x
    ·simp [h1, h2]
    ·simp [h1, h2, ih]
theorem cmpB_ntrans : ∀ a b c : List UInt8, ¬ compareBytes a b < 0 -> ¬ compareBytes b c < 0 -> ¬ compareBytes a c < 0
 | [], [], c, _, h2 => h2
 | [], _ :: _, _, h1, _ => by simp [compareBytes] at h1
 | _ :: _, _, [], _, _ => by simp [compareBytes]
 | x :: a, [], z :: c, _, h2 => by simp [compareBytes] at h2
 | x :: a, y :: b, z :: c, h1, h2 => by
   have ih := cmpB_ntrans a b c
   unfold compareBytes at h1 h2 ⊢
   by_cases hxy : x < y
   ·simp [hxy] at h1
   ·by_cases hyz : y < z
    ·simp [hyz] at h2
    ·have hxz : ¬ x < z := fun h => by
      have h3 := UInt8.le_trans (UInt8.not_lt.1 hyz) (UInt8.not_lt.1 hxy)
      exact absurd h (UInt8.not_lt.2 h3)
     simp only [if_neg hxy, if_neg hyz, if_neg hxz] at h1 h2 ⊢
     by_cases hzx : z < x
     ·simp [hzx]
     ·have hyx : ¬ y < x := fun h => hzx (UInt8.lt_of_le_of_lt (UInt8.not_lt.1 hyz) h)
      have hzy : ¬ z < y := fun h => hzx (UInt8.lt_of_lt_of_le h (UInt8.not_lt.1 hxy))
      simp only [if_neg hyx, if_neg hzy, if_neg hzx] at h1 h2 ⊢
      exact ih h1 h2
def cmpN (a b : ByteArray) : Int := compareBytes a.data.toList b.data.toList
theorem cmpN_neg (a b : ByteArray) : cmpN b a = - cmpN a b := cmpB_neg _ _
end
section
open Go Go.RowKit Go.OpenShut
abbrev RM.obj (r : RM) : Obj := .cells #[.string r.name, .int .i64 r.v.k, .int .i64 r.v.n, .string r.v.s, .slice r.v.pl r.v.nl r.v.cl, .slice r.v.pm r.v.nm r.v.cm] 46
end
section
structure CmpOk {β : Type} (c : β -> β -> Int) : Prop where
 refl : ∀ x, c x x = 0
 anti : ∀ x y, c y x = - c x y
 trans : ∀ x y z, c x y <= 0 -> c y z <= 0 -> c x z <= 0
theorem CmpOk.on {β γ : Type} {c : β -> β -> Int} (h : CmpOk c) (f : γ -> β) : CmpOk (fun x y => c (f x) (f y)) := ⟨fun x => h.refl _, fun x y => h.anti _ _, fun x y z a b => h.trans _ _ _ a b⟩
theorem CmpOk.neg {β : Type} {c : β -> β -> Int} (h : CmpOk c) : CmpOk (fun x y => - c x y) :=
 ⟨fun x => by rw [h.refl]; rfl, fun x y => by rw [h.anti], fun x y z a b => by
  have h1 := h.anti x y
  have h2 := h.anti y z
  have h3 := h.anti x z
  have h4 := h.trans z y x (by omega) (by omega)
  omega⟩
theorem CmpOk.lex {β : Type} {c d : β -> β -> Int} (hc : CmpOk c) (hd : CmpOk d) : CmpOk (fun x y => if c x y ≠ 0 then c x y else d x y) := by
 refine ⟨fun x => by rw [if_neg (by rw [hc.refl]; simp), hd.refl], fun x y => ?_, fun x y z => ?_⟩
 ·have h1 := hc.anti x y
  by_cases h : c x y = 0
  ·rw [if_neg (by omega), if_neg (by omega)]; exact hd.anti x y
  ·rw [if_pos (by omega), if_pos (by omega)]; exact h1
 ·have axy := hc.anti x y
  have ayz := hc.anti y z
  have axz := hc.anti x z
  intro h1 h2
  have c1 : c x y <= 0 := by split at h1 <;> omega
  have c2 : c y z <= 0 := by split at h2 <;> omega
  have c3 := hc.trans x y z c1 c2
  by_cases h : c x z = 0
  ·have e1 : c x y = 0 := by
    have := hc.trans y z x c2 (by omega)
    omega
   have e2 : c y z = 0 := by
    have := hc.trans z x y (by omega) c1
    omega
   rw [if_neg (by omega)] at h1 h2
   rw [if_neg (by omega)]
   exact hd.trans x y z h1 h2
  ·rw [if_pos (by omega)]
   omega
theorem cmpBytes_ok : CmpOk Go.Lib.compareBytes := by
 refine ⟨cmpB_self, fun x y => cmpB_neg x y, ?_⟩
 intro x
 induction x with
 | nil =>
   intro y z h1 h2
   cases z with
   | nil => exact Int.le_refl _
   | cons c z => show (-1 : Int) <= 0; decide
 | cons a x ih =>
   intro y z h1 h2
   cases y with
   | nil => exact absurd h1 (by show ¬ (1 : Int) <= 0; decide)
   | cons b y =>
     cases z with
     | nil => exact absurd h2 (by show ¬ (1 : Int) <= 0; decide)
     | cons c z =>
       unfold Go.Lib.compareBytes at h1 h2 ⊢
       by_cases ab : a < b
       ·by_cases bc : b < c
        ·rw [if_pos (UInt8.lt_trans ab bc)]; decide
        ·rw [if_neg bc] at h2
         by_cases cb : c < b
         ·rw [if_pos cb] at h2; exact absurd h2 (by decide)
         ·have : b = c := UInt8.le_antisymm (UInt8.not_lt.1 cb) (UInt8.not_lt.1 bc)
          subst this
          rw [if_pos ab]; decide
       ·rw [if_neg ab] at h1
        by_cases ba : b < a
        ·rw [if_pos ba] at h1; exact absurd h1 (by decide)
        ·have : a = b := UInt8.le_antisymm (UInt8.not_lt.1 ba) (UInt8.not_lt.1 ab)
         subst this
         rw [if_neg ba] at h1
         by_cases bc : a < c
         ·rw [if_pos bc]; decide
         ·rw [if_neg bc] at h2 ⊢
          by_cases cb : c < a
          ·rw [if_pos cb] at h2; exact absurd h2 (by decide)
          ·rw [if_neg cb] at h2 ⊢
           exact ih y z h1 h2
theorem cmpS_ok : CmpOk cmpS := by
 refine ⟨fun x => ?_, fun x y => ?_, fun x y z => ?_⟩
 ·unfold cmpS
  cases secF x with
  | none => exact cmpB_self _
  | some a => dsimp only; rw [if_neg (by omega), if_neg (by omega)]; exact cmpB_self _
 ·unfold cmpS
  cases secF x with
  | none => cases secF y with
    | none => exact cmpB_neg _ _
    | some b => rfl
  | some a => cases secF y with
    | none => rfl
    | some b =>
      dsimp only
      by_cases h1 : a < b
      ·rw [if_neg (by omega), if_pos h1, if_pos h1]; decide
      ·by_cases h2 : b < a
       ·rw [if_pos h2, if_neg h1, if_pos h2]
       ·rw [if_neg h2, if_neg h1, if_neg h1, if_neg h2]; exact cmpB_neg _ _
 ·unfold cmpS
  cases hx : secF x with
  | none => cases hy : secF y with
    | none => cases hz : secF z with
      | none => exact cmpBytes_ok.trans _ _ _
      | some c => intro _ _; show (-1 : Int) <= 0; decide
    | some b => cases hz : secF z with
      | none => intro _ h; exact absurd h (show ¬ (1 : Int) <= 0 by decide)
      | some c => intro _ _; show (-1 : Int) <= 0; decide
  | some a => cases hy : secF y with
    | none => intro h; exact absurd h (show ¬ (1 : Int) <= 0 by decide)
    | some b => cases hz : secF z with
      | none => intro _ h; exact absurd h (show ¬ (1 : Int) <= 0 by decide)
      | some c =>
        dsimp only
        intro h1 h2
        by_cases ab : a < b
        ·by_cases cb : c < b
         ·rw [if_neg (by omega), if_pos cb] at h2; exact absurd h2 (by decide)
         ·rw [if_pos (by omega)]; decide
        ·rw [if_neg ab] at h1
         by_cases ba : b < a
         ·rw [if_pos ba] at h1; exact absurd h1 (by decide)
         ·rw [if_neg ba] at h1
          have : a = b := by omega
          subst this
          by_cases ac : a < c
          ·rw [if_pos ac]; decide
          ·rw [if_neg ac] at h2 ⊢
           by_cases ca : c < a
           ·rw [if_pos ca] at h2; exact absurd h2 (by decide)
           ·rw [if_neg ca] at h2 ⊢
            exact cmpBytes_ok.trans _ _ _ h1 h2
structure CmpD where
 prop : ByteArray
 down : Bool
def createdN : ByteArray := ⟨#[99, 114, 101, 97, 116, 101, 100]⟩
def updatedN : ByteArray := ⟨#[117, 112, 100, 97, 116, 101, 100]⟩
def givenN : ByteArray := ⟨#[110, 97, 109, 101, 47, 103, 105, 118, 101, 110]⟩
def surN : ByteArray := ⟨#[110, 97, 109, 101, 47, 115, 117, 114, 110, 97, 109, 101]⟩
def sur2N : ByteArray := ⟨#[110, 97, 109, 101, 47, 115, 117, 114, 110, 97, 109, 101, 50]⟩
def datedB (p : ByteArray) : Bool := decide (p = createdN) || decide (p = updatedN)
def nameN : ByteArray := ⟨#[110, 97, 109, 101]⟩
def compN : ByteArray := ⟨#[99, 111, 109, 112, 111, 110, 101, 110, 116, 115]⟩
def kindN : ByteArray := ⟨#[107, 105, 110, 100]⟩
def valueN : ByteArray := ⟨#[118, 97, 108, 117, 101]⟩
def textM (v : JV) (name : ByteArray) : List ByteArray := match v.get name with | some x => if x.k = 4 then [x.s] else [] | none => []
def partsJ (v : JV) (kind : ByteArray) : List ByteArray := match v.get compN with | some x => if x.k = 5 then (x.l.filter (fun c => decide (kind.size = 0) || decide (textM c kindN = [kind]))).flatMap (fun c => textM c valueN) else [] | none => []
def zeroJ : JV := .mk 0 0 ⟨#[]⟩ [] []
def nameK (v : JV) (p : ByteArray) : ByteArray := (partsJ ((v.get nameN).getD zeroJ) (p.extract 5 p.size)).headD ⟨#[]⟩
def stampK (v : JV) (p : ByteArray) : ByteArray := (textM v p).headD ⟨#[]⟩
def foldC (c : UInt8) : UInt8 := if 65 <= c /\ c <= 90 then c + 32 else c
def foldL (l : List UInt8) : List UInt8 := l.map foldC
def cmpK (c : CmpD) (a b : JV) : Int :=
 let n := if datedB c.prop then cmpS (stampK a c.prop).data.toList (stampK b c.prop).data.toList else Go.Lib.compareBytes (foldL (nameK a c.prop).data.toList) (foldL (nameK b c.prop).data.toList)
 if c.down then -n else n
theorem cmpK_ok (c : CmpD) : CmpOk (cmpK c) := by
 have h : CmpOk (fun a b => if datedB c.prop then cmpS (stampK a c.prop).data.toList (stampK b c.prop).data.toList else Go.Lib.compareBytes (foldL (nameK a c.prop).data.toList) (foldL (nameK b c.prop).data.toList)) := by
  cases datedB c.prop
  ·exact cmpBytes_ok.on (fun a => foldL (nameK a c.prop).data.toList)
  ·exact cmpS_ok.on (fun a => (stampK a c.prop).data.toList)
 unfold cmpK
 cases c.down
 ·exact h
 ·exact h.neg
def cmpO : List CmpD -> ByteArray × JV -> ByteArray × JV -> Int
 | [], a, b => Go.Lib.compareBytes a.1.data.toList b.1.data.toList
 | c :: cs, a, b => if cmpK c a.2 b.2 ≠ 0 then cmpK c a.2 b.2 else cmpO cs a b
theorem cmpO_ok : ∀ cs : List CmpD, CmpOk (cmpO cs)
 | [] => cmpBytes_ok.on (fun a : ByteArray × JV => a.1.data.toList)
 | c :: cs => ((cmpK_ok c).on (fun a : ByteArray × JV => a.2)).lex (cmpO_ok cs)
def aheadJ (cs : List CmpD) (a b : ByteArray × JV) : Bool := decide (cmpO cs a b < 0)
theorem CmpOk.lt {β : Type} {c : β -> β -> Int} (h : CmpOk c) : LtOk (fun a b => decide (c a b < 0)) :=
 ⟨fun a b h1 => by
  have h2 := of_decide_eq_true h1
  have h3 := h.anti a b
  exact decide_eq_false (by omega), fun a b x h1 h2 => by
  have h3 := of_decide_eq_false h1
  have h4 := of_decide_eq_false h2
  have h5 := h.anti b a
  have h6 := h.anti x b
  have h7 := h.trans a b x (by omega) (by omega)
  have h8 := h.anti a x
  exact decide_eq_false (by omega)⟩
end
end Go.Proofs.YtjhginendpjimaaGreatDoor
