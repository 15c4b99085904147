import Derived.Test.YtffhccmppdgmfaaGreatDoorC05
import Derived.Test.YtffhccmppdgmfaaGreatDoorC04
import Derived.Sort.LotA
import Derived.Shelf.SlSortCmp.Insertion
import Derived.Test.YtffhccmppdgmfaaGreatDoorProg
import Derived.Shelf.SlSortCmp.KitK
import Derived.Sort.WalkB2
import Derived.Sort.WalkB12
import Derived.Deep.LoopGhost
import Derived.WalkKit
import Derived.Lib.Hide
import Derived.Shelf.SlSortCmp.QuietGrown
import Derived.Deep.Cut
import Derived.Deep.CutRange
set_option linter.unusedSimpArgs false
set_option linter.unusedVariables false
set_option maxRecDepth 200000
set_option maxHeartbeats 8000000
namespace Go.Proofs.YtffhccmppdgmfaaGreatDoor
section
open Go Go.RowKit Go.OpenShut
theorem tl_form {t : List UInt8} (h : tlOk t = true) : t = [90] \/ ∃ D, t = 46 :: (D ++ [90]) /\ D ≠ [] /\ D.all digU = true /\ D.length <= 9 := by
 unfold tlOk at h
 simp only [Bool.or_eq_true, Bool.and_eq_true, decide_eq_true_eq] at h
 rcases h with h | ⟨h1, h2, h3, h4, _, h6⟩
 ·exact .inl h
 ·obtain ⟨c, r, rfl, hr⟩ := one_more (k := 2) (l := t) (by omega)
  have hne : r ≠ [] := fun e => by rw [e] at hr; simp at hr
  obtain ⟨D, z, rfl⟩ : ∃ D z, r = D ++ [z] := ⟨r.dropLast, r.getLast hne, (List.dropLast_concat_getLast hne).symm⟩
  simp only [List.length_append, List.length_cons, List.length_nil] at hr h1 h2 h4 h6
  have hc : c = 46 := by simpa using h3
  have hz : z = 90 := by
   rw [show D.length + (0 + 1) + 1 - 1 = (D.length + 0) + 1 by omega, List.getElem?_cons_succ, List.getElem?_append_right (by omega), show D.length - D.length = 0 by omega] at h4
   simpa using h4
  rw [List.drop_succ_cons, List.drop_zero, show D.length + (0 + 1) + 1 - 2 = D.length by omega, List.take_left] at h6
  subst hc
  subst hz
  refine .inr ⟨D, rfl, fun e => ?_, h6, by omega⟩
  rw [e] at hr
  simp at hr
theorem dig_not {c : UInt8} (h : digU c = true) : ([46, 90] : List UInt8).contains c = false := by
 cases hc : ([46, 90] : List UInt8).contains c with
 | false => rfl
 | true =>
   have : c ∈ ([46, 90] : List UInt8) := List.contains_iff_mem.1 hc
   simp at this
   rcases this with rfl | rfl
   ·cases h
   ·cases h
theorem dropW_stop {l : List UInt8} (hd : l ≠ []) (h : l.all digU = true) (r : List UInt8) : (l ++ r).dropWhile (([46, 90] : List UInt8).contains ·) = l ++ r := by
 cases l with
 | nil => exact absurd rfl hd
 | cons a m =>
   rw [List.all_cons, Bool.and_eq_true] at h
   rw [List.cons_append, List.dropWhile_cons, if_neg (by rw [dig_not h.1]; decide)]
theorem trim_form {D : List UInt8} (hd : D ≠ []) (h : D.all digU = true) : Lib.trimS (46 :: (D ++ [90])) [46, 90] = D := by
 unfold Lib.trimS Lib.trimLeftS Lib.trimRightS
 have e1 : (46 :: (D ++ [90])).reverse = 90 :: (D.reverse ++ [46]) := by simp
 have e2 : (90 :: (D.reverse ++ [46])).dropWhile (([46, 90] : List UInt8).contains ·) = D.reverse ++ [46] := by
  rw [List.dropWhile_cons, if_pos (by decide)]
  exact dropW_stop (by simpa using hd) (by rw [List.all_reverse]; exact h) _
 rw [e1, e2, List.reverse_append, List.reverse_reverse]
 show (46 :: D).dropWhile _ = D
 rw [List.dropWhile_cons, if_pos (by decide)]
 have := dropW_stop hd h []
 rw [List.append_nil] at this
 exact this
theorem no_dot : ∀ f ∈ formL, posOk f 46 = false := by decide
theorem hd_count {l : List UInt8} (h : hdOk l = true) : (l.take 19).count 46 = 0 := by
 rw [List.count_eq_zero]
 intro hm
 obtain ⟨i, hi, he⟩ := List.mem_iff_getElem.1 hm
 rw [List.length_take] at hi
 have hil : i < 19 := by omega
 have hl : l[i]? = some 46 := by
  rw [List.getElem_take] at he
  rw [<- he]
  exact List.getElem?_eq_getElem _
 obtain ⟨f, hf⟩ := form_get ⟨i, hil⟩
 unfold hdOk at h
 rw [Bool.and_eq_true] at h
 have hz : (formL.zip l)[i]? = some (f, 46) := by rw [List.getElem?_zip_eq_some]; exact ⟨hf, hl⟩
 have h2 := List.all_eq_true.1 h.2 _ (List.mem_of_getElem? hz)
 dsimp only at h2
 rw [no_dot f (List.mem_of_getElem? hf)] at h2
 cases h2
theorem dig_count {D : List UInt8} (h : D.all digU = true) : D.count 46 = 0 := by
 rw [List.count_eq_zero]
 intro hm
 have := List.all_eq_true.1 h _ hm
 cases this
theorem part_law {l : List UInt8} (hh : hdOk l = true) (ht : tlOk (l.drop 19) = true) : Lib.trimS (l.drop 19) [46, 90] = (l.drop 20).take (l.length - 21) /\ (11 : Int) - (l.length - 19 : Nat) + (l.count 46 : Nat) = ((10 - (l.length - 21) : Nat) : Int) /\ 20 <= l.length /\ l.length <= 30 := by
 have hc := hd_count hh
 have hs : l.count 46 = (l.drop 19).count 46 := by
  conv => lhs; rw [<- List.take_append_drop 19 l]
  rw [List.count_append, hc, Nat.zero_add]
 have hdr : l.drop 20 = (l.drop 19).drop 1 := by rw [List.drop_drop]
 have hlen : (l.drop 19).length = l.length - 19 := List.length_drop
 rw [hs, hdr]
 rcases tl_form ht with h | ⟨D, h, h1, h2, h3⟩
 ·rw [h] at hlen ⊢
  have : l.length = 20 := by simp at hlen; omega
  rw [this]
  exact ⟨by decide, by decide, by omega, by omega⟩
 ·rw [h] at hlen ⊢
  have hl : l.length = 21 + D.length := by simp at hlen; omega
  have hn : 1 <= D.length := by
   cases D with
   | nil => exact absurd rfl h1
   | cons a r => simp
  refine ⟨?_, ?_, by omega, by omega⟩
  ·rw [trim_form h1 h2, hl, List.drop_succ_cons, List.drop_zero, show 21 + D.length - 21 = D.length by omega, List.take_left]
  ·rw [List.count_cons, List.count_append, dig_count h2, hl]
   show (11 : Int) - ((21 + D.length - 19 : Nat) : Int) + 1 = _
   omega
theorem repeatL_one (c : UInt8) (n : Nat) : Lib.repeatL [c] n = List.replicate n c := by
 induction n with
 | zero => rfl
 | succ n ih => rw [List.replicate_succ, <- ih]; rfl
theorem part_any (s : ByteArray) (w : World) (hh : hdOk s.data.toList = true) (ht : tlOk (s.data.toList.drop 19) = true) : Calls Tryz.prog 145 #[.string s] w fun e w' => e = .returned (.string ⟨(partF s.data.toList).toArray⟩) /\ Below w.heap.size w w' := by
 obtain ⟨h1, h2, h3, h4⟩ := part_law hh ht
 have hsz : s.data.toList.length = s.size := by rw [Array.length_toList]; rfl
 rw [hsz] at h1 h2 h3 h4
 have h19 : 19 <= s.size := by omega
 have h19' : (19 : Int) <= (s.size : Int) := by omega
 have HTR : Hid (∀ W, Calls Tryz.prog 163 #[.string (s.extract 19 s.size), .string ⟨#[46, 90]⟩] W fun e w' => e = .returned (.string ⟨((s.data.toList.drop 20).take (s.size - 21)).toArray⟩) /\ Below W.heap.size W w') := fun W =>
  (Any.strings_Trim_laid lays160 (by kernel_rfl) (s.extract 19 s.size) ⟨#[46, 90]⟩ W (by rw [<- str_len, Lib.extract_data]; simp; omega) (by decide) (fun j b h => by
   have hall : ([46, 90] : List UInt8).all (fun b => decide (b.toNat < 128)) = true := by decide
   exact of_decide_eq_true (List.all_eq_true.1 hall b (List.mem_of_getElem? h)))).mono (fun e w' h => by
    rw [Lib.extract_data, List.take_of_length_le (by rw [List.length_drop, hsz]; omega)] at h
    refine ⟨h.1.trans ?_, h.2⟩
    rw [<- h1])
 have HCO : Hid (∀ W, Calls Tryz.prog 165 #[.string s, .string ⟨#[46]⟩] W fun e w' => e = .returned (.int .i64 ((s.data.toList.count 46 : Nat) : Int)) /\ W = w') := fun W => (strings_Count_one s 46 W).mono (fun e w' h => ⟨h.1, h.2.symm⟩)
 have HRP : Hid (∀ W, Calls Tryz.prog 164 #[.string ⟨#[48]⟩, .int .i64 ((10 - (s.size - 21) : Nat) : Int)] W fun e w' => e = .returned (.string ⟨(List.replicate (10 - (s.size - 21)) 48).toArray⟩) /\ Below W.heap.size W w') := fun W => (strings_Repeat ⟨#[48]⟩ _ W (by omega) (by show 1 * _ <= _; omega)).mono (fun e w' h => ⟨h.1.trans (by rw [show (⟨#[48]⟩ : ByteArray).data.toList = [48] from rfl, repeatL_one]), h.2⟩)
 have HPF : Hid ((⟨(partF s.data.toList).toArray⟩ : ByteArray) = ⟨((s.data.toList.drop 20).take (s.size - 21)).toArray⟩ ++ ⟨(List.replicate (10 - (s.size - 21)) 48).toArray⟩) := by
  unfold Hid partF
  rw [hsz]
  apply ByteArray.ext
  simp
 obtain ⟨c, hc⟩ : ∃ c : Nat, s.data.toList.count 46 = c := ⟨_, rfl⟩
 obtain ⟨T, hT⟩ : ∃ T : ByteArray, ⟨((s.data.toList.drop 20).take (s.size - 21)).toArray⟩ = T := ⟨_, rfl⟩
 obtain ⟨Q, hQ⟩ : ∃ Q : ByteArray, ⟨(List.replicate (10 - (s.size - 21)) 48).toArray⟩ = Q := ⟨_, rfl⟩
 have hTs : T.size <= 10 := by rw [<- hT, <- str_len]; simp; try omega
 have hQs : Q.size <= 10 := by rw [<- hQ, <- str_len]; simp; try omega
 rw [hT] at HTR HPF
 rw [hQ] at HRP HPF
 rw [hc] at HCO h2
 have HN := Lib.hid h2
 have hcb : (c : Int) <= 1000 := by omega
 have hc0 : (0 : Int) <= (c : Int) := Int.natCast_nonneg _
 have hw : IntKind.i64.wrap (IntKind.i64.wrap (11 - ((s.size - 19 : Nat) : Int)) + (c : Int)) = ((10 - (s.size - 21) : Nat) : Int) := by
  rw [<- h2]
  have b : ((s.size - 19 : Nat) : Int) <= 11 := by omega
  have b0 : (0 : Int) <= ((s.size - 19 : Nat) : Int) := Int.natCast_nonneg _
  generalize ((s.size - 19 : Nat) : Int) = n at b b0
  rw [IntKind.wrap_i64 (11 - n), IntKind.wrap_i64]; omega
 rw [<- hw] at HRP
 clear hT hQ hc h1 h2 hsz hh ht hw HN
 go_enter Tryz.func145, Tryz.ntmps145
 go_upto_region 1 with fail
 go_region_with
  (first
   | (go_at_call 163; refine (HTR.out _).mono ?_; rintro e w1 ⟨rfl, hb1⟩)
   | (go_at_call 165; refine (HCO.out _).mono ?_; rintro e w2 ⟨rfl, rfl⟩)
   | (go_at_call 164; refine (HRP.out _).mono ?_; rintro e w3 ⟨rfl, hb3⟩)
   | fail)
 all_goals
  first
   | go_ret
   | (go_wp2_with fail; go_ret)
  refine ⟨by rw [HPF.out]; rfl, ?_⟩
  first
   | exact (((Below.refl _ _).drew).trans (hb1.mono (Nat.le_refl _))).trans (hb3.mono hb1.size)
   | exact (hb1.trans (hb3.mono hb1.size))
   | (trace_state; fail)
theorem comp_any (a b : ByteArray) (W : World) : Calls Tryz.prog 143 #[.string a, .string b] W fun e w' => e = .returned (.int .i64 (Lib.compareBytes a.data.toList b.data.toList)) /\ W = w' := (strings_Compare a b W).mono (fun e w' h => ⟨h.1, h.2.symm⟩)
theorem scomp_any (s t : ByteArray) (w : World) (hs : s.size <= maxLen) (ht : t.size <= maxLen) : Calls Tryz.prog 111 #[.string s, .string t] w fun e w' => e = .returned (.int .i64 (cmpS s.data.toList t.data.toList)) /\ Below w.heap.size w w' := by
 have HSA : Hid (∀ W, Calls Tryz.prog 144 #[.string s] W fun e w' => e = .returned (secRet (secF s.data.toList)) /\ Below W.heap.size W w') := fun W => seconds_any s W hs
 have HSB : Hid (∀ W, Calls Tryz.prog 144 #[.string t] W fun e w' => e = .returned (secRet (secF t.data.toList)) /\ Below W.heap.size W w') := fun W => seconds_any t W ht
 have HCM : Hid (∀ W, Calls Tryz.prog 143 #[.string s, .string t] W fun e w' => e = .returned (.int .i64 (Lib.compareBytes s.data.toList t.data.toList)) /\ W = w') := fun W => comp_any s t W
 have HR : Hid (cmpS s.data.toList t.data.toList = match secF s.data.toList, secF t.data.toList with
  | none, none => Go.Lib.compareBytes s.data.toList t.data.toList
  | none, some _ => -1
  | some _, none => 1
  | some x, some y => if x < y then -1 else if y < x then 1 else Go.Lib.compareBytes (partF s.data.toList) (partF t.data.toList)) := rfl
 obtain ⟨R, hR⟩ : ∃ R, cmpS s.data.toList t.data.toList = R := ⟨_, rfl⟩
 rw [hR] at HR
 rw [hR]
 clear hR
 have HPA : Hid (∀ x, secF s.data.toList = some x -> ∀ W, Calls Tryz.prog 145 #[.string s] W fun e w' => e = .returned (.string ⟨(partF s.data.toList).toArray⟩) /\ Below W.heap.size W w') := fun x h W => part_any s W (secF_tl h).1 (secF_tl h).2
 have HPB : Hid (∀ x, secF t.data.toList = some x -> ∀ W, Calls Tryz.prog 145 #[.string t] W fun e w' => e = .returned (.string ⟨(partF t.data.toList).toArray⟩) /\ Below W.heap.size W w') := fun x h W => part_any t W (secF_tl h).1 (secF_tl h).2
 have HCP : Hid (∀ W, Calls Tryz.prog 143 #[.string ⟨(partF s.data.toList).toArray⟩, .string ⟨(partF t.data.toList).toArray⟩] W fun e w' => e = .returned (.int .i64 (Lib.compareBytes (partF s.data.toList) (partF t.data.toList))) /\ W = w') := fun W => comp_any _ _ W
 obtain ⟨PA, hPA⟩ : ∃ P : ByteArray, ⟨(partF s.data.toList).toArray⟩ = P := ⟨_, rfl⟩
 obtain ⟨PB, hPB⟩ : ∃ P : ByteArray, ⟨(partF t.data.toList).toArray⟩ = P := ⟨_, rfl⟩
 obtain ⟨cp, hcp⟩ : ∃ n, Go.Lib.compareBytes (partF s.data.toList) (partF t.data.toList) = n := ⟨_, rfl⟩
 obtain ⟨cm, hcm⟩ : ∃ n, Go.Lib.compareBytes s.data.toList t.data.toList = n := ⟨_, rfl⟩
 rw [hPA] at HPA HCP
 rw [hPB] at HPB HCP
 rw [hcp] at HCP HR
 rw [hcm] at HCM HR
 obtain ⟨oa, hoa⟩ : ∃ o, secF s.data.toList = o := ⟨_, rfl⟩
 obtain ⟨ob, hob⟩ : ∃ o, secF t.data.toList = o := ⟨_, rfl⟩
 rw [hoa] at HSA HPA HR
 rw [hob] at HSB HPB HR
 clear hPA hPB hcp hcm hoa hob hs ht
 cases oa with
 | none => cases ob with
   | none =>
     have HRR : Hid (R = cm) := HR.out
     clear HR HPA HPB HCP
     unfold secRet at HSA HSB
     go_enter Tryz.func111, Tryz.ntmps111
     go_wp2_with (first | (go_at_call 144; with_reducible refine (HSA.out _).mono ?_; rintro e w1 ⟨rfl, hb1⟩) | (go_at_call 144; with_reducible refine (HSB.out _).mono ?_; rintro e w2 ⟨rfl, hb2⟩) | (go_at_call 143; refine (HCM.out _).mono ?_; rintro e w3 ⟨rfl, rfl⟩) | fail)
     rw [HRR.out]
     go_ret
     exact ⟨rfl, hb1.trans (hb2.mono hb1.size)⟩
   | some y =>
     have HRR : Hid (R = -1) := HR.out
     clear HR HPA HPB HCP HCM
     unfold secRet at HSA HSB
     go_enter Tryz.func111, Tryz.ntmps111
     go_wp2_with (first | (go_at_call 144; with_reducible refine (HSA.out _).mono ?_; rintro e w1 ⟨rfl, hb1⟩) | (go_at_call 144; with_reducible refine (HSB.out _).mono ?_; rintro e w2 ⟨rfl, hb2⟩) | fail)
     rw [HRR.out]
     go_ret
     exact ⟨rfl, hb1.trans (hb2.mono hb1.size)⟩
 | some x => cases ob with
   | none =>
     have HRR : Hid (R = 1) := HR.out
     clear HR HPA HPB HCP HCM
     unfold secRet at HSA HSB
     go_enter Tryz.func111, Tryz.ntmps111
     go_wp2_with (first | (go_at_call 144; with_reducible refine (HSA.out _).mono ?_; rintro e w1 ⟨rfl, hb1⟩) | (go_at_call 144; with_reducible refine (HSB.out _).mono ?_; rintro e w2 ⟨rfl, hb2⟩) | fail)
     rw [HRR.out]
     go_ret
     exact ⟨rfl, hb1.trans (hb2.mono hb1.size)⟩
   | some y =>
     have HQA := Lib.hid (HPA.out x rfl)
     have HQB := Lib.hid (HPB.out y rfl)
     clear HPA HPB HCM
     unfold secRet at HSA HSB
     by_cases hxy : x < y
     ·have HRR : Hid (R = -1) := HR.out.trans (if_pos hxy)
      have q1 : decide (x < y) = true := decide_eq_true hxy
      clear HR HCP HQA HQB
      go_enter Tryz.func111, Tryz.ntmps111
      go_wp2_with (first | (go_at_call 144; with_reducible refine (HSA.out _).mono ?_; rintro e w1 ⟨rfl, hb1⟩) | (go_at_call 144; with_reducible refine (HSB.out _).mono ?_; rintro e w2 ⟨rfl, hb2⟩) | fail)
      rw [HRR.out]
      go_ret
      exact ⟨rfl, hb1.trans (hb2.mono hb1.size)⟩
     ·have q1 : decide (x < y) = false := decide_eq_false hxy
      by_cases hyx : y < x
      ·have HRR : Hid (R = 1) := HR.out.trans ((if_neg hxy).trans (if_pos hyx))
       have q2 : decide (y < x) = true := decide_eq_true hyx
       clear HR HCP HQA HQB
       go_enter Tryz.func111, Tryz.ntmps111
       go_wp2_with (first | (go_at_call 144; with_reducible refine (HSA.out _).mono ?_; rintro e w1 ⟨rfl, hb1⟩) | (go_at_call 144; with_reducible refine (HSB.out _).mono ?_; rintro e w2 ⟨rfl, hb2⟩) | fail)
       rw [HRR.out]
       go_ret
       exact ⟨rfl, hb1.trans (hb2.mono hb1.size)⟩
      ·have HRR : Hid (R = cp) := HR.out.trans ((if_neg hxy).trans (if_neg hyx))
       have q2 : decide (y < x) = false := decide_eq_false hyx
       clear HR
       go_enter Tryz.func111, Tryz.ntmps111
       go_wp2_with (first | (go_at_call 144; with_reducible refine (HSA.out _).mono ?_; rintro e w1 ⟨rfl, hb1⟩) | (go_at_call 144; with_reducible refine (HSB.out _).mono ?_; rintro e w2 ⟨rfl, hb2⟩) | (go_at_call 145; with_reducible refine (HQA.out _).mono ?_; rintro e w3 ⟨rfl, hb3⟩) | (go_at_call 145; with_reducible refine (HQB.out _).mono ?_; rintro e w4 ⟨rfl, hb4⟩) | (go_at_call 143; refine (HCP.out _).mono ?_; rintro e w5 ⟨rfl, rfl⟩) | fail)
       rw [HRR.out]
       go_ret
       have h12 := hb1.trans (hb2.mono hb1.size)
       have h123 := h12.trans (hb3.mono h12.size)
       exact ⟨rfl, h123.trans (hb4.mono h123.size)⟩
end
section
section
variable {α : Type} (lt : α -> α -> Bool)
structure LtOk : Prop where
 asym : ∀ a b, lt a b = true -> lt b a = false
 ntrans : ∀ a b c, lt b a = false -> lt c b = false -> lt c a = false
def childOf (c p : Nat) : Prop := c = 2 * p + 1 \/ c = 2 * p + 2
def HeapF (f : Nat -> α) (n k : Nat) : Prop := ∀ p c, k <= p -> childOf c p -> c < n -> lt (f c) (f p) = false
structure HeapEx (f : Nat -> α) (n k i : Nat) : Prop where
 rest : ∀ p c, k <= p -> p ≠ i -> childOf c p -> c < n -> lt (f c) (f p) = false
 over : ∀ p c, k <= p -> childOf i p -> childOf c i -> c < n -> lt (f c) (f p) = false
 ge : k <= i
def swapF (f : Nat -> α) (i j : Nat) : Nat -> α := fun k => if k = i then f j else if k = j then f i else f k
variable {lt}
theorem HeapEx.start {f : Nat -> α} {n k : Nat} (h : HeapF lt f n (k + 1)) : HeapEx lt f n k k :=
 ⟨fun p c hp hn hc hl => h p c (by omega) hc hl, fun p c hp hi hc hl => by unfold childOf at hi; omega, Nat.le_refl _⟩
theorem HeapEx.leaf {f : Nat -> α} {n k i : Nat} (h : HeapEx lt f n k i) (hi : n <= 2 * i + 1) : HeapF lt f n k := fun p c hp hc hl => by
 by_cases e : p = i
 ·subst e; unfold childOf at hc; omega
 ·exact h.rest p c hp e hc hl
def MinChild (lt : α -> α -> Bool) (f : Nat -> α) (n i j : Nat) : Prop := childOf j i /\ j < n /\ ∀ c, childOf c i -> c < n -> lt (f c) (f j) = false
theorem HeapEx.stop {f : Nat -> α} {n k i j : Nat} (L : LtOk lt) (h : HeapEx lt f n k i) (hj : MinChild lt f n i j) (hl : lt (f j) (f i) = false) : HeapF lt f n k := fun p c hp hc hn => by
 by_cases e : p = i
 ·subst e; exact L.ntrans _ _ _ hl (hj.2.2 c hc hn)
 ·exact h.rest p c hp e hc hn
theorem HeapEx.swap {f : Nat -> α} {n k i j : Nat} (L : LtOk lt) (h : HeapEx lt f n k i) (hj : MinChild lt f n i j) (hl : lt (f j) (f i) = true) : HeapEx lt (swapF f i j) n k j := by
 obtain ⟨hji, hjn, hmin⟩ := hj
 have hij : i < j := by unfold childOf at hji; omega
 have hk := h.ge
 refine ⟨fun p c hp hn hc hcl => ?_, fun p c hp hi hc hcl => ?_, by omega⟩
 ·unfold swapF
  by_cases e : p = i
  ·subst e
   by_cases e2 : c = j
   ·subst e2
    rw [if_neg (by omega), if_pos rfl, if_pos rfl]
    exact L.asym _ _ hl
   ·rw [if_neg (by unfold childOf at hc; omega), if_neg e2, if_pos rfl]
    exact hmin c hc hcl
  ·rw [if_neg (show ¬ p = i from e), if_neg hn]
   by_cases e2 : c = i
   ·subst e2
    rw [if_pos rfl]
    exact h.over p j hp hc hji hjn
   ·by_cases e3 : c = j
    ·subst e3
     exact absurd (by unfold childOf at hc hji; omega) e
    ·rw [if_neg e2, if_neg e3]
     exact h.rest p c hp e hc hcl
 ·have hpi : p = i := by unfold childOf at hi hji; omega
  subst hpi
  unfold swapF
  rw [if_neg (by unfold childOf at hc; omega), if_neg (by unfold childOf at hc; omega), if_pos rfl]
  exact h.rest j c (by omega) (by omega) hc hcl
theorem HeapF.min {f : Nat -> α} {n : Nat} (L : LtOk lt) (h : HeapF lt f n 0) : ∀ i, i < n -> lt (f i) (f 0) = false := by
 intro i
 induction i using Nat.strongRecOn with
 | ind i ih =>
   intro hi
   by_cases h0 : i = 0
   ·subst h0
    cases hl : lt (f 0) (f 0) with
    | false => rfl
    | true => have := L.asym _ _ hl; rw [hl] at this; cases this
   ·have hp : childOf i ((i - 1) / 2) := by unfold childOf; omega
    exact L.ntrans _ _ _ (ih ((i - 1) / 2) (by omega) (by omega)) (h _ i (Nat.zero_le _) hp hi)
theorem HeapF.none {f : Nat -> α} {n : Nat} : HeapF lt f n (n / 2) := fun p c hp hc hn => by unfold childOf at hc; omega
theorem HeapF.mono {f : Nat -> α} {n k k' : Nat} (h : HeapF lt f n k) (hk : k <= k') : HeapF lt f n k' := fun p c hp hc hn => h p c (by omega) hc hn
theorem HeapF.congr {f g : Nat -> α} {n n' k : Nat} (h : HeapF lt f n k) (he : ∀ i, i < n' -> f i = g i) (hn : n' <= n) : HeapF lt g n' k := fun p c hp hc hl => by
 rw [<- he c hl, <- he p (by unfold childOf at hc; omega)]
 exact h p c hp hc (by omega)
def swapL (xs : List α) (i j : Nat) (hi : i < xs.length) (hj : j < xs.length) : List α := (xs.set i xs[j]).set j xs[i]
theorem swapL_len {xs : List α} {i j : Nat} {hi : i < xs.length} {hj : j < xs.length} : (swapL xs i j hi hj).length = xs.length := by simp [swapL]
theorem swapL_get {xs : List α} {i j : Nat} {hi : i < xs.length} {hj : j < xs.length} (hne : i ≠ j) (d : α) : (fun k => (swapL xs i j hi hj).getD k d) = swapF (fun k => xs.getD k d) i j := by
 funext k
 unfold swapL swapF
 simp only [List.getD_eq_getElem?_getD, List.getElem?_set, List.length_set]
 by_cases h1 : k = i
 ·subst h1
  rw [if_neg (fun e => hne e.symm), if_pos rfl, if_pos hi, if_pos rfl, List.getElem?_eq_getElem hj]
 ·rw [if_neg (c := k = i) h1]
  by_cases h2 : k = j
  ·subst h2
   rw [if_pos rfl, if_pos hj, if_pos rfl, List.getElem?_eq_getElem hi]
  ·rw [if_neg (fun e => h2 e.symm), if_neg (fun e => h1 e.symm), if_neg h2]
theorem swapL_perm {xs : List α} {i j : Nat} {hi : i < xs.length} {hj : j < xs.length} : (swapL xs i j hi hj).Perm xs := List.set_set_perm hi hj
structure PopI (lt : α -> α -> Bool) (d : α) (l out xs : List α) : Prop where
 perm : (out ++ xs).Perm l
 heap : HeapF lt (fun k => xs.getD k d) xs.length 0
 sorted : out.Pairwise (fun a b => lt b a = false)
 low : ∀ a ∈ out, ∀ b ∈ xs, lt b a = false
theorem PopI.pop {d : α} {l out xs ys : List α} {x : α} (L : LtOk lt) (h : PopI lt d l out xs) (hx : xs[0]? = some x) (hp : (x :: ys).Perm xs) (hh : HeapF lt (fun k => ys.getD k d) ys.length 0) : PopI lt d l (out ++ [x]) ys := by
 have hxm : x ∈ xs := List.mem_of_getElem? hx
 have hmin : ∀ b ∈ xs, lt b x = false := fun b hb => by
  obtain ⟨i, hi⟩ := List.getElem?_of_mem hb
  have h1 := h.heap.min L i (List.getElem?_eq_some_iff.1 hi).1
  rw [List.getD_eq_getElem?_getD, List.getD_eq_getElem?_getD, hi, hx] at h1
  exact h1
 refine ⟨?_, hh, ?_, ?_⟩
 ·rw [List.append_assoc]
  exact ((List.Perm.append_left out hp).trans h.perm)
 ·rw [List.pairwise_append]
  exact ⟨h.sorted, by simp, fun a ha b hb => by rw [List.mem_singleton.1 hb]; exact h.low a ha x hxm⟩
 ·intro a ha b hb
  have hbx : b ∈ xs := hp.mem_iff.1 (List.mem_cons_of_mem _ hb)
  rcases List.mem_append.1 ha with ha | ha
  ·exact h.low a ha b hbx
  ·rw [List.mem_singleton.1 ha]; exact hmin b hbx
theorem sorted_unique : ∀ (a b : List α), (∀ x ∈ a, ∀ y ∈ a, lt x y = false -> lt y x = false -> x = y) -> a.Perm b -> a.Pairwise (fun x y => lt y x = false) -> b.Pairwise (fun x y => lt y x = false) -> a = b
 | [], b, _, hp, _, _ => by rw [List.Perm.nil_eq hp]
 | x :: a, [], _, hp, _, _ => by have := hp.length_eq; simp at this
 | x :: a, y :: b, ht, hp, ha, hb => by
   rw [List.pairwise_cons] at ha hb
   have hxy : x = y := by
    have hy : y ∈ x :: a := hp.mem_iff.2 (by simp)
    have hx : x ∈ y :: b := hp.mem_iff.1 (by simp)
    rcases List.mem_cons.1 hy with h | h
    ·exact h.symm
    ·rcases List.mem_cons.1 hx with h2 | h2
     ·exact h2
     ·exact ht x (by simp) y hy (hb.1 x h2) (ha.1 y h)
   subst hxy
   rw [sorted_unique a b (fun p hp' q hq => ht p (List.mem_cons_of_mem _ hp') q (List.mem_cons_of_mem _ hq)) (List.Perm.cons_inv hp) ha.2 hb.2]
end
end
section
open Go.Sort
open Go.Proofs (ltOf)
variable {α : Type} [Inhabited α]
def swr (d : Array α) (a b : Nat) : Nat -> Array α
 | 0 => d
 | n + 1 => swp (swr d a b n) (a + n) (b + n)
theorem size_swr (d : Array α) (a b n : Nat) : (swr d a b n).size = d.size := by
 induction n with
 | zero => rfl
 | succ n ih => rw [swr, size_swp, ih]
theorem swr_get (d : Array α) (a b n : Nat) (h : a + n <= b) (hb : b + n <= d.size) (t : Nat) :
 (swr d a b n)[t]! = if a <= t /\ t < a + n then d[b + (t - a)]! else if b <= t /\ t < b + n then d[a + (t - b)]! else d[t]! := by
 induction n generalizing t with
 | zero => rw [if_neg (by omega), if_neg (by omega)]; rfl
 | succ n ih =>
   have ih' := fun t => ih (by omega) (by omega) t
   rw [swr, swp_get _ (by rw [size_swr]; omega) (by rw [size_swr]; omega), ih', ih', ih']
   rw [if_neg (by omega : ¬ (a <= a + n /\ a + n < a + n)), if_neg (by omega : ¬ (b <= a + n /\ a + n < b + n)), if_neg (by omega : ¬ (a <= b + n /\ b + n < a + n)), if_neg (by omega : ¬ (b <= b + n /\ b + n < b + n))]
   by_cases h1 : t = b + n
   ·rw [if_pos h1, if_neg (by omega), if_pos (by omega)]; congr 1; omega
   ·rw [if_neg h1]
    by_cases h2 : t = a + n
    ·rw [if_pos h2, if_pos (by omega)]; congr 1; omega
    ·rw [if_neg h2]
     by_cases h3 : a <= t /\ t < a + n
     ·rw [if_pos h3, if_pos (by omega)]
     ·rw [if_neg h3, if_neg (by omega : ¬ (a <= t /\ t < a + (n + 1)))]
      by_cases h4 : b <= t /\ t < b + n
      ·rw [if_pos h4, if_pos (by omega)]
      ·rw [if_neg h4, if_neg (by omega)]
theorem swr_perm (d : Array α) (a b n lo hi : Nat) (h1 : lo <= a) (h2 : a + n <= hi) (h3 : lo <= b) (h4 : b + n <= hi) (h5 : hi <= d.size) : PermIn lo hi d (swr d a b n) := by
 induction n with
 | zero => exact permIn_refl _ _ _
 | succ n ih => exact permIn_trans _ _ _ _ _ (ih (by omega) (by omega)) (swp_permIn _ _ _ _ _ (by omega) (by omega) (by omega) (by omega) (by rw [size_swr]; exact h5))
def rotG (d : Array α) (a m b t : Nat) : α := if a <= t /\ t < a + (b - m) then d[t + (m - a)]! else if a + (b - m) <= t /\ t < b then d[t - (b - m)]! else d[t]!
theorem rot_gt (d : Array α) (m i j t : Nat) (hij : j < i) (him : i <= m) (hm : m + j <= d.size) : rotG (swr d (m - i) m j) (m - (i - j)) m (m + j) t = rotG d (m - i) m (m + j) t := by
 unfold rotG
 simp only [swr_get d (m - i) m j (by omega) hm]
 by_cases h1 : m - (i - j) <= t /\ t < m - (i - j) + (m + j - m)
 ·rw [if_pos h1]
  by_cases h2 : m - i <= t /\ t < m - i + (m + j - m)
  ·omega
  ·rw [if_neg h2, if_pos (by omega : m - i + (m + j - m) <= t /\ t < m + j), if_neg (by omega), if_pos (by omega)]; congr 1; omega
 ·rw [if_neg h1]
  by_cases h2 : m - (i - j) + (m + j - m) <= t /\ t < m + j
  ·rw [if_pos h2, if_neg (by omega : ¬ (m - i <= t /\ t < m - i + (m + j - m))), if_pos (by omega : m - i + (m + j - m) <= t /\ t < m + j), if_neg (by omega), if_neg (by omega)]
  ·rw [if_neg h2]
   by_cases h3 : m - i <= t /\ t < m - i + j
   ·rw [if_pos h3, if_pos (by omega : m - i <= t /\ t < m - i + (m + j - m))]; congr 1; omega
   ·rw [if_neg h3, if_neg (by omega : ¬ (m <= t /\ t < m + j)), if_neg (by omega : ¬ (m - i <= t /\ t < m - i + (m + j - m))), if_neg (by omega : ¬ (m - i + (m + j - m) <= t /\ t < m + j))]
theorem rot_lt (d : Array α) (m i j t : Nat) (hij : i < j) (him : i <= m) (hm : m + j <= d.size) : rotG (swr d (m - i) (m + j - i) i) (m - i) m (m + (j - i)) t = rotG d (m - i) m (m + j) t := by
 unfold rotG
 simp only [swr_get d (m - i) (m + j - i) i (by omega) (by omega)]
 by_cases h1 : m - i <= t /\ t < m - i + (m + (j - i) - m)
 ·rw [if_pos h1, if_pos (by omega : m - i <= t /\ t < m - i + (m + j - m)), if_neg (by omega), if_neg (by omega)]
 ·rw [if_neg h1]
  by_cases h2 : m - i + (m + (j - i) - m) <= t /\ t < m + (j - i)
  ·rw [if_pos h2, if_pos (by omega : m - i <= t /\ t < m - i + (m + j - m)), if_pos (by omega)]; congr 1; omega
  ·rw [if_neg h2]
   by_cases h3 : m + j - i <= t /\ t < m + j - i + i
   ·rw [if_neg (by omega : ¬ (m - i <= t /\ t < m - i + i)), if_pos h3, if_neg (by omega : ¬ (m - i <= t /\ t < m - i + (m + j - m))), if_pos (by omega : m - i + (m + j - m) <= t /\ t < m + j)]; congr 1; omega
   ·rw [if_neg (by omega : ¬ (m - i <= t /\ t < m - i + i)), if_neg h3, if_neg (by omega : ¬ (m - i <= t /\ t < m - i + (m + j - m))), if_neg (by omega : ¬ (m - i + (m + j - m) <= t /\ t < m + j))]
theorem rot_eq (d : Array α) (m i t : Nat) (him : i <= m) (hm : m + i <= d.size) : (swr d (m - i) m i)[t]! = rotG d (m - i) m (m + i) t := by
 unfold rotG
 rw [swr_get d (m - i) m i (by omega) hm]
 by_cases h1 : m - i <= t /\ t < m - i + i
 ·rw [if_pos h1, if_pos (by omega)]; congr 1; omega
 ·rw [if_neg h1, if_neg (by omega : ¬ (m - i <= t /\ t < m - i + (m + i - m)))]
  by_cases h2 : m <= t /\ t < m + i
  ·rw [if_pos h2, if_pos (by omega)]; congr 1; omega
  ·rw [if_neg h2, if_neg (by omega)]
def bubUp (d : Array α) (k : Nat) : Nat -> Array α
 | 0 => d
 | c + 1 => swp (bubUp d k c) (k + c) (k + c + 1)
theorem size_bubUp (d : Array α) (k c : Nat) : (bubUp d k c).size = d.size := by
 induction c with
 | zero => rfl
 | succ c ih => rw [bubUp, size_swp, ih]
theorem bubUp_get (d : Array α) (k c : Nat) (h : k + c < d.size) (t : Nat) : (bubUp d k c)[t]! = if k <= t /\ t < k + c then d[t + 1]! else if t = k + c then d[k]! else d[t]! := by
 induction c generalizing t with
 | zero =>
  rw [if_neg (by omega)]
  by_cases e : t = k + 0
  ·rw [if_pos e]; simp [bubUp, e]
  ·rw [if_neg e]; rfl
 | succ c ih =>
   have ih' := fun t => ih (by omega) t
   rw [bubUp, swp_get _ (by rw [size_bubUp]; omega) (by rw [size_bubUp]; omega), ih', ih', ih']
   rw [if_neg (by omega : ¬ (k <= k + c /\ k + c < k + c)), if_pos rfl, if_neg (by omega : ¬ (k <= k + c + 1 /\ k + c + 1 < k + c)), if_neg (by omega : ¬ k + c + 1 = k + c)]
   by_cases h1 : t = k + c + 1
   ·rw [if_pos h1, if_neg (by omega), if_pos (by omega)]
   ·rw [if_neg h1]
    by_cases h2 : t = k + c
    ·rw [if_pos h2, if_pos (by omega)]; congr 1; omega
    ·rw [if_neg h2]
     by_cases h3 : k <= t /\ t < k + c
     ·rw [if_pos h3, if_pos (by omega)]
     ·rw [if_neg h3, if_neg (by omega : ¬ t = k + c), if_neg (by omega), if_neg (by omega)]
theorem bubUp_perm (d : Array α) (k c lo hi : Nat) (h1 : lo <= k) (h2 : k + c < hi) (h3 : hi <= d.size) : PermIn lo hi d (bubUp d k c) := by
 induction c with
 | zero => exact permIn_refl _ _ _
 | succ c ih => exact permIn_trans _ _ _ _ _ (ih (by omega)) (swp_permIn _ _ _ _ _ (by omega) (by omega) (by omega) (by omega) (by rw [size_bubUp]; exact h3))
def bubDn (d : Array α) (k : Nat) : Nat -> Array α
 | 0 => d
 | c + 1 => swp (bubDn d k c) (k - c) (k - c - 1)
theorem size_bubDn (d : Array α) (k c : Nat) : (bubDn d k c).size = d.size := by
 induction c with
 | zero => rfl
 | succ c ih => rw [bubDn, size_swp, ih]
theorem bubDn_get (d : Array α) (k c : Nat) (hc : c <= k) (h : k < d.size) (t : Nat) : (bubDn d k c)[t]! = if t = k - c then d[k]! else if k - c < t /\ t <= k then d[t - 1]! else d[t]! := by
 induction c generalizing t with
 | zero =>
   by_cases e : t = k - 0
   ·rw [if_pos e]; simp [bubDn, e]
   ·rw [if_neg e, if_neg (by omega)]; rfl
 | succ c ih =>
   have ih' := fun t => ih (by omega) t
   rw [bubDn, swp_get _ (by rw [size_bubDn]; omega) (by rw [size_bubDn]; omega), ih', ih', ih']
   rw [if_pos rfl, if_neg (by omega : ¬ k - c - 1 = k - c), if_neg (by omega : ¬ (k - c < k - c - 1 /\ k - c - 1 <= k))]
   by_cases h1 : t = k - c - 1
   ·rw [if_pos h1, if_pos (by omega)]
   ·rw [if_neg h1]
    by_cases h2 : t = k - c
    ·rw [if_pos h2, if_neg (by omega), if_pos (by omega)]; congr 1; omega
    ·rw [if_neg h2, if_neg h2]
     by_cases h3 : k - c < t /\ t <= k
     ·rw [if_pos h3, if_neg (by omega), if_pos (by omega)]
     ·rw [if_neg h3, if_neg (by omega), if_neg (by omega)]
theorem bubDn_perm (d : Array α) (k c lo hi : Nat) (hc : c <= k) (h1 : lo <= k - c) (h2 : k < hi) (h3 : hi <= d.size) : PermIn lo hi d (bubDn d k c) := by
 induction c with
 | zero => exact permIn_refl _ _ _
 | succ c ih => exact permIn_trans _ _ _ _ _ (ih (by omega) (by omega)) (swp_permIn _ _ _ _ _ (by omega) (by omega) (by omega) (by omega) (by rw [size_bubDn]; exact h3))
variable {α : Type} [Inhabited α] {lt : α -> α -> Bool}
theorem sorted_le (S : SWO lt) {a b : Nat} {d : Array α} (h : SortedIn lt a b d) {i j : Nat} (hi : a <= i) (hij : i <= j) (hj : j < b) : lt d[j]! d[i]! = false := by
 rcases Nat.lt_or_ge i j with h1 | h1
 ·exact h i j hi h1 hj
 ·obtain rfl : i = j := by omega
  exact S.irrefl _
theorem sorted_sub {a b a' b' : Nat} {d : Array α} (h : SortedIn lt a b d) (ha : a <= a') (hb : b' <= b) : SortedIn lt a' b' d := fun i j h1 h2 h3 => h i j (by omega) h2 (by omega)
theorem sym_parts {d d1 : Array α} {a m b start e mid : Nat} (h1 : SortedIn lt a m d) (h2 : SortedIn lt m b d) (ha : a <= start) (hs : start <= m) (hm : m <= e) (he : e <= b) (hmid : start + e = mid + m)
 (hd : ∀ t, d1[t]! = rotG d start m e t) : SortedIn lt a start d1 /\ SortedIn lt start mid d1 /\ SortedIn lt mid e d1 /\ SortedIn lt e b d1 := by
 have p1 : ∀ t, t < start -> d1[t]! = d[t]! := fun t ht => by rw [hd, rotG, if_neg (by omega), if_neg (by omega)]
 have p2 : ∀ t, start <= t -> t < mid -> d1[t]! = d[t + (m - start)]! := fun t h1 h2 => by rw [hd, rotG, if_pos (by omega)]
 have p3 : ∀ t, mid <= t -> t < e -> d1[t]! = d[t - (e - m)]! := fun t h1 h2 => by rw [hd, rotG, if_neg (by omega), if_pos (by omega)]
 have p4 : ∀ t, e <= t -> d1[t]! = d[t]! := fun t ht => by rw [hd, rotG, if_neg (by omega), if_neg (by omega)]
 refine ⟨fun i j x y z => ?_, fun i j x y z => ?_, fun i j x y z => ?_, fun i j x y z => ?_⟩
 ·rw [p1 i (by omega), p1 j (by omega)]; exact h1 i j (by omega) y (by omega)
 ·rw [p2 i (by omega) (by omega), p2 j (by omega) (by omega)]; exact h2 _ _ (by omega) (by omega) (by omega)
 ·rw [p3 i (by omega) (by omega), p3 j (by omega) (by omega)]; exact h1 _ _ (by omega) (by omega) (by omega)
 ·rw [p4 i (by omega), p4 j (by omega)]; exact h2 _ _ (by omega) y (by omega)
theorem sym_cross (S : SWO lt) {d d1 : Array α} {a m b start e mid s0 r0 : Nat} (h1 : SortedIn lt a m d) (h2 : SortedIn lt m b d) (ha : a <= start) (hs : start <= m) (hm : m <= e) (he : e <= b) (hmid : start + e = mid + m)
 (hd : ∀ t, d1[t]! = rotG d start m e t) (hA : s0 < start -> lt d[e]! d[start - 1]! = false) (hB : start < r0 -> lt d[e - 1]! d[start]! = true)
 (hA0 : start = s0 -> start = a \/ e = b) (hB0 : start = r0 -> start = m \/ e = m) (hs0 : s0 <= start) (hr0 : start <= r0) :
 ∀ i j, a <= i -> i < mid -> mid <= j -> j < b -> lt d1[j]! d1[i]! = false := by
 have p1 : ∀ t, t < start -> d1[t]! = d[t]! := fun t ht => by rw [hd, rotG, if_neg (by omega), if_neg (by omega)]
 have p2 : ∀ t, start <= t -> t < mid -> d1[t]! = d[t + (m - start)]! := fun t h1 h2 => by rw [hd, rotG, if_pos (by omega)]
 have p3 : ∀ t, mid <= t -> t < e -> d1[t]! = d[t - (e - m)]! := fun t h1 h2 => by rw [hd, rotG, if_neg (by omega), if_pos (by omega)]
 have p4 : ∀ t, e <= t -> d1[t]! = d[t]! := fun t ht => by rw [hd, rotG, if_neg (by omega), if_neg (by omega)]
 have LR : ∀ x y, a <= x -> x < start -> e <= y -> y < b -> lt d[y]! d[x]! = false := by
  intro x y q1 q2 q3 q4
  by_cases hs' : s0 < start
  ·exact S.ntrans _ _ _ (sorted_le S h2 (by omega) q3 q4) (S.ntrans _ _ _ (hA hs') (sorted_le S h1 q1 (by omega) (by omega)))
  ·rcases hA0 (by omega) with h | h <;> omega
 have RL : ∀ x y, m <= x -> x < e -> start <= y -> y < m -> lt d[y]! d[x]! = false := by
  intro x y q1 q2 q3 q4
  by_cases hr' : start < r0
  ·exact S.ntrans _ _ _ (sorted_le S h1 ha q3 q4) (S.ntrans _ _ _ (S.asymmA (hB hr')) (sorted_le S h2 q1 (by omega) (by omega)))
  ·rcases hB0 (by omega) with h | h <;> omega
 intro i j q1 q2 q3 q4
 by_cases hi : i < start
 ·rw [p1 i hi]
  by_cases hj : j < e
  ·rw [p3 j q3 hj]; exact sorted_le S h1 q1 (by omega) (by omega)
  ·rw [p4 j (by omega)]; exact LR i j q1 hi (by omega) q4
 ·rw [p2 i (by omega) q2]
  by_cases hj : j < e
  ·rw [p3 j q3 hj]; exact RL _ _ (by omega) (by omega) (by omega) (by omega)
  ·rw [p4 j (by omega)]; exact sorted_le S h2 (by omega) (by omega) q4
theorem perm_out {a b : Nat} {d d' : Array α} (h : PermIn a b d d') {t : Nat} (ht : t < a \/ b <= t) : d'[t]! = d[t]! := h.2.1 t ht
theorem perm_size {a b : Nat} {d d' : Array α} (h : PermIn a b d d') : d'.size = d.size := h.1
theorem sym_whole {d1 d2 d3 : Array α} {a mid b : Nat} (ham : a <= mid) (hmb : mid <= b) (hsz : b <= d1.size) (hx : ∀ i j, a <= i -> i < mid -> mid <= j -> j < b -> lt d1[j]! d1[i]! = false)
 (hp2 : PermIn a mid d1 d2) (hs2 : SortedIn lt a mid d2) (hp3 : PermIn mid b d2 d3) (hs3 : SortedIn lt mid b d3) : SortedIn lt a b d3 /\ PermIn a b d1 d3 := by
 have hz2 := hp2.1
 refine ⟨fun i j q1 q2 q3 => ?_, permIn_trans _ _ _ _ _ (permIn_mono _ _ _ _ _ _ (Nat.le_refl _) hmb hsz hp2) (permIn_mono _ _ _ _ _ _ ham (Nat.le_refl _) (by omega) hp3)⟩
 by_cases hj : j < mid
 ·rw [perm_out hp3 (.inl hj), perm_out hp3 (.inl (by omega))]; exact hs2 i j q1 q2 hj
 ·by_cases hi : i < mid
  ·have e1 : d3[i]! = d2[i]! := perm_out hp3 (.inl hi)
   rw [e1]
   have step1 : ∀ y, mid <= y -> y < b -> ∀ x, a <= x -> x < mid -> lt d1[y]! d2[x]! = false := fun y y1 y2 =>
    permIn_all d1 d2 a mid (fun v => lt d1[y]! v = false) (by omega) hp2 (fun x x1 x2 => hx x y x1 x2 y1 y2)
   have step2 : ∀ y, mid <= y -> y < b -> lt d2[y]! d2[i]! = false := fun y y1 y2 => by
    rw [perm_out hp2 (.inr y1)]; exact step1 y y1 y2 i q1 hi
   exact permIn_all d2 d3 mid b (fun v => lt v d2[i]! = false) (by omega) hp3 step2 j (by omega) q3
  ·exact hs3 i j (by omega) q2 q3
theorem ins_left (S : SWO lt) {d : Array α} {a b i : Nat} (h2 : SortedIn lt (a + 1) b d) (hi : a + 1 <= i) (hib : i <= b) (hb : b <= d.size) (hlo : a + 1 < i -> lt d[i - 1]! d[a]! = true) (hhi : i < b -> lt d[i]! d[a]! = false) :
 SortedIn lt a b (bubUp d a (i - 1 - a)) := by
 intro x y q1 q2 q3
 simp only [bubUp_get d a (i - 1 - a) (by omega)]
 by_cases hy : y < i - 1
 ·rw [if_pos (by omega), if_pos (by omega)]; exact h2 _ _ (by omega) (by omega) (by omega)
 ·by_cases hy2 : y = i - 1
  ·rw [if_neg (by omega), if_pos (by omega), if_pos (by omega)]
   exact S.asymmA (by
    have h3 := hlo (by omega)
    have h4 := sorted_le S h2 (show a + 1 <= x + 1 by omega) (show x + 1 <= i - 1 by omega) (by omega)
    cases h5 : lt d[x + 1]! d[a]! with
    | true => rfl
    | false => rw [S.ntrans _ _ _ h4 h5] at h3; cases h3)
  ·rw [if_neg (by omega), if_neg (by omega)]
   have hyy : lt d[y]! d[a]! = false := S.ntrans _ _ _ (sorted_le S h2 (show a + 1 <= i by omega) (by omega : i <= y) q3) (hhi (by omega))
   by_cases hx : x < i - 1
   ·rw [if_pos (by omega)]; exact h2 _ _ (by omega) (by omega) (by omega)
   ·by_cases hx2 : x = i - 1
    ·rw [if_neg (by omega), if_pos (by omega)]; exact hyy
    ·rw [if_neg (by omega), if_neg (by omega)]; exact h2 _ _ (by omega) q2 q3
theorem ins_right (S : SWO lt) {d : Array α} {a m i : Nat} (h1 : SortedIn lt a m d) (hi : a <= i) (him : i <= m) (hb : m < d.size) (hlo : a < i -> lt d[m]! d[i - 1]! = false) (hhi : i < m -> lt d[m]! d[i]! = true) :
 SortedIn lt a (m + 1) (bubDn d m (m - i)) := by
 have hmi : m - (m - i) = i := by omega
 intro x y q1 q2 q3
 simp only [bubDn_get d m (m - i) (by omega) hb, hmi]
 by_cases hx : x < i
 ·rw [if_neg (by omega : ¬ x = i), if_neg (by omega : ¬ (i < x /\ x <= m))]
  by_cases hy : y < i
  ·rw [if_neg (by omega), if_neg (by omega)]; exact h1 _ _ q1 q2 (by omega)
  ·by_cases hy2 : y = i
   ·rw [if_pos hy2]; exact S.ntrans _ _ _ (hlo (by omega)) (sorted_le S h1 q1 (by omega : x <= i - 1) (by omega))
   ·rw [if_neg hy2, if_pos (by omega)]; exact sorted_le S h1 q1 (by omega) (by omega)
 ·by_cases hx2 : x = i
  ·rw [if_pos hx2, if_neg (by omega), if_pos (by omega)]
   have h3 := hhi (by omega)
   exact S.asymmA (by
    have h4 := sorted_le S h1 hi (show i <= y - 1 by omega) (by omega)
    cases h5 : lt d[m]! d[y - 1]! with
    | true => rfl
    | false => rw [S.ntrans _ _ _ h5 h4] at h3; cases h3)
  ·rw [if_neg hx2, if_neg (by omega : ¬ y = i), if_pos (by omega : i < y /\ y <= m), if_pos (by omega : i < x /\ x <= m)]; exact h1 _ _ (by omega) (by omega) (by omega)
end
section
open Go.Shelf Go.RowKit Go.Lib Go.Sort
namespace SM
variable {P : Program} {α : Type} [Inhabited α]
def RotPost (enc : α -> List Value) (k : Nat) (w0 : World) (blk off : Nat) (d : Array α) (a m b : Nat) (e : Ending) (w' : World) : Prop :=
 e = .returned (.tuple #[]) /\ ∃ d' : Array α, SWK enc k w0 blk off d' w' /\ PermIn a b d d' /\ ∀ t, d'[t]! = rotG d a m b t
end SM
namespace SM
variable {P : Program} {α : Type} [Inhabited α]
def SymPost (enc : α -> List Value) (k : Nat) (w0 : World) (blk off : Nat) (lt : α -> α -> Bool) (d : Array α) (a b : Nat) (e : Ending) (w' : World) : Prop :=
 e = .returned (.tuple #[]) /\ ∃ d' : Array α, SWK enc k w0 blk off d' w' /\ PermIn a b d d' /\ SortedIn lt a b d'
end SM
namespace SM
variable {P : Program} {α : Type} [Inhabited α]
def SymPre (cf : α -> α -> Int) (lt : α -> α -> Bool) (d : Array α) (a m b : Nat) : Prop :=
 SortedIn lt a m d /\ SortedIn lt m b d /\ ∀ i j, a <= i -> i < m -> m <= j -> j < b -> ltOf cf d[j]! d[i]! = lt d[j]! d[i]!
theorem rot_triv (d : Array α) (s m e t : Nat) (h : s = m \/ m = e) (hs : s <= m) (he : m <= e) : d[t]! = rotG d s m e t := by
 unfold rotG
 rcases h with rfl | rfl
 ·by_cases h1 : s <= t /\ t < s + (e - s)
  ·rw [if_pos h1, Nat.sub_self, Nat.add_zero]
  ·rw [if_neg h1, if_neg (by omega)]
 ·rw [if_neg (by omega), Nat.sub_self]
  by_cases h1 : s + 0 <= t /\ t < m
  ·rw [if_pos h1, Nat.sub_zero]
  ·rw [if_neg h1]
end SM
end
end Go.Proofs.YtffhccmppdgmfaaGreatDoor
