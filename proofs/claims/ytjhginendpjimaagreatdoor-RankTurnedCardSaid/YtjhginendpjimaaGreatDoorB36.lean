import Derived.Test.YtjhginendpjimaaGreatDoorB35
set_option linter.unusedSimpArgs false
set_option linter.unusedVariables false
set_option maxRecDepth 200000
set_option maxHeartbeats 8000000
namespace Go.Proofs.YtjhginendpjimaaGreatDoor
section
open Go Go.RowKit Go.OpenShut
theorem rscomp_any (s t : ByteArray) (w : World) (hs : s.size <= maxLen) (ht : t.size <= maxLen) : Calls Tryz.prog 23 #[.string s, .string t] w fun e w' => e = .returned (.int .i64 (cmpS s.data.toList t.data.toList)) /\ w = w' := by
 have HSA : Hid (∀ W, Calls Tryz.prog 43 #[.string s] W fun e w' => e = .returned (secRet (secF s.data.toList)) /\ W = w') := fun W => by rw [<- secR_eq]; exact rsec_any s W hs
 have HSB : Hid (∀ W, Calls Tryz.prog 43 #[.string t] W fun e w' => e = .returned (secRet (secF t.data.toList)) /\ W = w') := fun W => by rw [<- secR_eq]; exact rsec_any t W ht
 have HR : Hid (cmpS s.data.toList t.data.toList = match secF s.data.toList, secF t.data.toList with
  | none, none => Go.Lib.compareBytes s.data.toList t.data.toList
  | none, some _ => -1
  | some _, none => 1
  | some x, some y => if x < y then -1 else if y < x then 1 else Go.Lib.compareBytes (partF s.data.toList) (partF t.data.toList)) := rfl
 obtain ⟨R, hR⟩ : ∃ R, cmpS s.data.toList t.data.toList = R := ⟨_, rfl⟩
 rw [hR] at HR
 rw [hR]
 clear hR
 have HPA : Hid (∀ x, secF s.data.toList = some x -> ∀ W, Calls Tryz.prog 44 #[.string s] W fun e w' => e = .returned (.int .i64 (partN s.data.toList)) /\ W = w') := fun x h W => rpart_any s W (secF_tl h).2
 have HPB : Hid (∀ x, secF t.data.toList = some x -> ∀ W, Calls Tryz.prog 44 #[.string t] W fun e w' => e = .returned (.int .i64 (partN t.data.toList)) /\ W = w') := fun x h W => rpart_any t W (secF_tl h).2
 have HCP : Hid (∀ x y, secF s.data.toList = some x -> secF t.data.toList = some y -> Go.Lib.compareBytes (partF s.data.toList) (partF t.data.toList) = sgnI (partN s.data.toList - partN t.data.toList)) := fun x y hx hy => cmp_part (secF_tl hx).2 (secF_tl hy).2
 have hl : Op.bytesLess s.toList t.toList = decide (Go.Lib.compareBytes s.data.toList t.data.toList < 0) := by rw [ByteArray.toList_eq, ByteArray.toList_eq]; exact bytesLess_cmp _ _
 have hg : (s.toList == t.toList) = decide (Go.Lib.compareBytes s.data.toList t.data.toList = 0) := by rw [ByteArray.toList_eq, ByteArray.toList_eq]; exact beq_cmp _ _
 have hb := cmpB_bound s.data.toList t.data.toList
 obtain ⟨cp, hcp⟩ : ∃ n, Go.Lib.compareBytes (partF s.data.toList) (partF t.data.toList) = n := ⟨_, rfl⟩
 obtain ⟨cm, hcm⟩ : ∃ n, Go.Lib.compareBytes s.data.toList t.data.toList = n := ⟨_, rfl⟩
 rw [hcp] at HR HCP
 rw [hcm] at HR hl hg hb
 obtain ⟨PA, hPA⟩ : ∃ P, partN s.data.toList = P := ⟨_, rfl⟩
 obtain ⟨PB, hPB⟩ : ∃ P, partN t.data.toList = P := ⟨_, rfl⟩
 rw [hPA] at HPA HCP
 rw [hPB] at HPB HCP
 obtain ⟨oa, hoa⟩ : ∃ o, secF s.data.toList = o := ⟨_, rfl⟩
 obtain ⟨ob, hob⟩ : ∃ o, secF t.data.toList = o := ⟨_, rfl⟩
 rw [hoa] at HSA HPA HR HCP
 rw [hob] at HSB HPB HR HCP
 clear hPA hPB hcp hcm hoa hob hs ht
 unfold secRet at HSA HSB
 cases oa with
 | none => cases ob with
   | none =>
     have HRR : Hid (R = cm) := HR.out
     clear HR HPA HPB HCP
     dsimp only at HSA HSB
     rcases (show cm = -1 \/ cm = 0 \/ cm = 1 by omega) with rfl | rfl | rfl
     all_goals
      have hl2 : Op.bytesLess s.toList t.toList = _ := hl.trans (by first | exact decide_eq_true (by decide) | exact decide_eq_false (by decide))
      have hg2 : (s.toList == t.toList) = _ := hg.trans (by first | exact decide_eq_true (by decide) | exact decide_eq_false (by decide))
      clear hl hg hb
      go_enter Tryz.func23, Tryz.ntmps23
      go_wp2_with (first | (go_at_call 43; (with_reducible refine (HSA.out _).mono ?_); rintro e w1 ⟨rfl, rfl⟩) | (go_at_call 43; (with_reducible refine (HSB.out _).mono ?_); rintro e w2 ⟨rfl, rfl⟩) | fail)
      rw [HRR.out]
      go_ret
      exact ⟨rfl, rfl⟩
   | some y =>
     have HRR : Hid (R = -1) := HR.out
     clear HR HPA HPB HCP hl hg hb
     dsimp only at HSA HSB
     go_enter Tryz.func23, Tryz.ntmps23
     go_wp2_with (first | (go_at_call 43; (with_reducible refine (HSA.out _).mono ?_); rintro e w1 ⟨rfl, rfl⟩) | (go_at_call 43; (with_reducible refine (HSB.out _).mono ?_); rintro e w2 ⟨rfl, rfl⟩) | fail)
     rw [HRR.out]
     go_ret
     exact ⟨rfl, rfl⟩
 | some x => cases ob with
   | none =>
     have HRR : Hid (R = 1) := HR.out
     clear HR HPA HPB HCP hl hg hb
     dsimp only at HSA HSB
     go_enter Tryz.func23, Tryz.ntmps23
     go_wp2_with (first | (go_at_call 43; (with_reducible refine (HSA.out _).mono ?_); rintro e w1 ⟨rfl, rfl⟩) | (go_at_call 43; (with_reducible refine (HSB.out _).mono ?_); rintro e w2 ⟨rfl, rfl⟩) | fail)
     rw [HRR.out]
     go_ret
     exact ⟨rfl, rfl⟩
   | some y =>
     have HQA := Lib.hid (HPA.out x rfl)
     have HQB := Lib.hid (HPB.out y rfl)
     have hcp := HCP.out x y rfl rfl
     clear HPA HPB HCP hl hg hb
     dsimp only at HSA HSB
     by_cases hxy : x = y
     ·subst hxy
      have q1 : (x == x) = true := by simp
      have HRR : Hid (R = cp) := HR.out.trans ((if_neg (Int.lt_irrefl _)).trans (if_neg (Int.lt_irrefl _)))
      clear HR
      rcases (show PA < PB \/ PA = PB \/ PB < PA by omega) with h | h | h
      ·have hv : cp = -1 := by rw [hcp]; unfold sgnI; rw [if_pos (by omega)]
       subst hv
       clear hcp
       have q2 : decide (PA < PB) = true := decide_eq_true h
       go_enter Tryz.func23, Tryz.ntmps23
       go_wp2_with (first | (go_at_call 43; (with_reducible refine (HSA.out _).mono ?_); rintro e w1 ⟨rfl, rfl⟩) | (go_at_call 43; (with_reducible refine (HSB.out _).mono ?_); rintro e w2 ⟨rfl, rfl⟩) | (go_at_call 44; (with_reducible refine (HQA.out _).mono ?_); rintro e w3 ⟨rfl, rfl⟩) | (go_at_call 44; (with_reducible refine (HQB.out _).mono ?_); rintro e w3 ⟨rfl, rfl⟩) | fail)
       rw [HRR.out]
       go_ret
       exact ⟨rfl, rfl⟩
      ·subst h
       have hv : cp = 0 := by rw [hcp]; unfold sgnI; rw [if_neg (by omega), if_neg (by omega)]
       subst hv
       clear hcp
       have q2 : decide (PA < PA) = false := decide_eq_false (Int.lt_irrefl _)
       go_enter Tryz.func23, Tryz.ntmps23
       go_wp2_with (first | (go_at_call 43; (with_reducible refine (HSA.out _).mono ?_); rintro e w1 ⟨rfl, rfl⟩) | (go_at_call 43; (with_reducible refine (HSB.out _).mono ?_); rintro e w2 ⟨rfl, rfl⟩) | (go_at_call 44; (with_reducible refine (HQA.out _).mono ?_); rintro e w3 ⟨rfl, rfl⟩) | (go_at_call 44; (with_reducible refine (HQB.out _).mono ?_); rintro e w3 ⟨rfl, rfl⟩) | fail)
       rw [HRR.out]
       go_ret
       exact ⟨rfl, rfl⟩
      ·have hv : cp = 1 := by rw [hcp]; unfold sgnI; rw [if_neg (by omega), if_pos (by omega)]
       subst hv
       clear hcp
       have q2 : decide (PA < PB) = false := decide_eq_false (by omega)
       have q3 : decide (PB < PA) = true := decide_eq_true h
       go_enter Tryz.func23, Tryz.ntmps23
       go_wp2_with (first | (go_at_call 43; (with_reducible refine (HSA.out _).mono ?_); rintro e w1 ⟨rfl, rfl⟩) | (go_at_call 43; (with_reducible refine (HSB.out _).mono ?_); rintro e w2 ⟨rfl, rfl⟩) | (go_at_call 44; (with_reducible refine (HQA.out _).mono ?_); rintro e w3 ⟨rfl, rfl⟩) | (go_at_call 44; (with_reducible refine (HQB.out _).mono ?_); rintro e w3 ⟨rfl, rfl⟩) | fail)
       rw [HRR.out]
       go_ret
       exact ⟨rfl, rfl⟩
     ·have q1 : (x == y) = false := by simpa using hxy
      clear hcp HQA HQB
      by_cases hlt : x < y
      ·have HRR : Hid (R = -1) := HR.out.trans (if_pos hlt)
       have q2 : decide (x < y) = true := decide_eq_true hlt
       clear HR
       go_enter Tryz.func23, Tryz.ntmps23
       go_wp2_with (first | (go_at_call 43; (with_reducible refine (HSA.out _).mono ?_); rintro e w1 ⟨rfl, rfl⟩) | (go_at_call 43; (with_reducible refine (HSB.out _).mono ?_); rintro e w2 ⟨rfl, rfl⟩) | fail)
       rw [HRR.out]
       go_ret
       exact ⟨rfl, rfl⟩
      ·have HRR : Hid (R = 1) := HR.out.trans ((if_neg hlt).trans (if_pos (by omega)))
       have q2 : decide (x < y) = false := decide_eq_false hlt
       have q3 : decide (y < x) = true := decide_eq_true (by omega)
       clear HR
       go_enter Tryz.func23, Tryz.ntmps23
       go_wp2_with (first | (go_at_call 43; (with_reducible refine (HSA.out _).mono ?_); rintro e w1 ⟨rfl, rfl⟩) | (go_at_call 43; (with_reducible refine (HSB.out _).mono ?_); rintro e w2 ⟨rfl, rfl⟩) | fail)
       rw [HRR.out]
       go_ret
       exact ⟨rfl, rfl⟩
end
end Go.Proofs.YtjhginendpjimaaGreatDoor
