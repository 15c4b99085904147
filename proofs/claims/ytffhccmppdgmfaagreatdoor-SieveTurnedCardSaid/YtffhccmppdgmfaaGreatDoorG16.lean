import Derived.Test.YtffhccmppdgmfaaGreatDoorG14
import Derived.Deep.RegionLaw
set_option linter.unusedSimpArgs false
set_option linter.unusedVariables false
set_option maxRecDepth 200000
set_option maxHeartbeats 8000000
namespace Go.Proofs.YtffhccmppdgmfaaGreatDoor
section
open Go.RowKit Go.OpenShut
def bareB (k n : Int) (s : ByteArray) (nl nm : Nat) : Bool := (n == 0 || k == 2 || k == 3) && (s.toList.isEmpty || k == 4) && (nl == 0 || k == 5) && (nm == 0 || k == 6)
theorem nat_beq0 (n : Nat) : ((n : Int) == 0) = (n == 0) := by rw [Bool.eq_iff_iff]; simp
theorem bare_any (r : RV) (w : World) :
 Calls Tryz.prog 134 #[r.val] w fun e w' => e = .returned (.bool (bareB r.k r.n r.s r.nl r.nm)) /\ Below w.heap.size w w' := by
 obtain ⟨k, n, s, pl, nl, cl, pm, nm, cm⟩ := r
 dsimp only [RV.val] at *
 have hA0 : VAt (w.alloc (.cells #[.int .i64 k, .int .i64 n, .string s, .slice pl nl cl, .slice pm nm cm] 25)) w.heap.size ⟨k, n, s, pl, nl, cl, pm, nm, cm⟩ := heap_alloc_at rfl
 have hB0 : Below w.heap.size w (w.alloc (.cells #[.int .i64 k, .int .i64 n, .string s, .slice pl nl cl, .slice pm nm cm] 25)) := (Below.refl _ _).alloc (Nat.le_refl _) _
 go_enter Tryz.func134, Tryz.ntmps134
 go_upto_region 1 with fail
 obtain ⟨W0, hW0⟩ : ∃ W0, (w.alloc (.cells #[.int .i64 k, .int .i64 n, .string s, .slice pl nl cl, .slice pm nm cm] 25)) = W0 := ⟨_, rfl⟩
 rw [hW0] at hA0 hB0 ⊢
 clear hW0
 obtain ⟨c0, c1, c2, c3, c4⟩ := hA0.cells5
 dsimp only at c0 c1 c2 c3 c4
 have HB := Lib.hid hB0
 clear hA0 hB0
 go_wp2_with fail
 all_goals go_ret
 all_goals refine ⟨ret_boolU ?_, HB.out⟩
 all_goals unfold bareB
 all_goals simp [*, nat_beq0]
def rightP (k n : Int) (s : ByteArray) (nl : Nat) (names : List ByteArray) : Bool :=
 decide (1 <= k) && decide (k <= 6) && bareB k n s nl names.length && badF s == s.size && (k != 2 || (n == 0 || n == 1)) && (k != 3 || (decide (-9007199254740991 <= n) && decide (n <= 9007199254740991))) && (k != 6 || (decide (8192 < names.length) || goodN names))
theorem rightV_any (r : RV) (rms : List RM) (w : World) (hm : Rd w w.heap.size encM 6 (.slice r.pm r.nm r.cm) rms) (hs : ∀ (i : Nat) q, rms[i]? = some q -> q.name.size <= maxLen) (hn : r.nm <= 1466015503658) (hss : r.s.size <= maxLen) :
 Calls Tryz.prog 101 #[r.val] w fun e w' => e = .returned (.bool (rightP r.k r.n r.s r.nl (rms.map (·.name)))) /\ Below w.heap.size w w' := by
 obtain ⟨k, n, s, pl, nl, cl, pm, nm, cm⟩ := r
 dsimp only [RV.val] at *
 have hA0 : VAt (w.alloc (.cells #[.int .i64 k, .int .i64 n, .string s, .slice pl nl cl, .slice pm nm cm] 25)) w.heap.size ⟨k, n, s, pl, nl, cl, pm, nm, cm⟩ := heap_alloc_at rfl
 have hB0 : Below w.heap.size w (w.alloc (.cells #[.int .i64 k, .int .i64 n, .string s, .slice pl nl cl, .slice pm nm cm] 25)) := (Below.refl _ _).alloc (Nat.le_refl _) _
 have hbare : ∀ w : World, Calls Tryz.prog 134 #[.agg #[.int .i64 k, .int .i64 n, .string s, .slice pl nl cl, .slice pm nm cm]] w fun e w' => e = .returned (.bool (bareB k n s nl nm)) /\ Below w.heap.size w w' := fun w => bare_any ⟨k, n, s, pl, nl, cl, pm, nm, cm⟩ w
 have hbad : ∀ w : World, Calls Tryz.prog 135 #[.string s] w fun e w' => e = .returned (.int .i64 (badF s : Nat)) /\ w = w' := fun w => bad_any s w hss
 have hnames : ∀ W : World, Below w.heap.size w W -> Calls Tryz.prog 136 #[.slice pm nm cm] W fun e w' => e = .returned (.bool (goodN (rms.map (·.name)))) /\ Below W.heap.size W w' := fun W hb => names_any pm nm cm rms W (hm.below hb hb.size) hs hn
 have elen := rd_nlen hm
 have hble := badF_le s
 unfold maxLen at hss
 have HBARE := Lib.hid hbare
 have HBAD := Lib.hid hbad
 have HNAM := Lib.hid hnames
 have HB := Lib.hid hB0
 have HE := Lib.hid elen
 clear hbare hbad hnames elen hm hs
 go_enter Tryz.func101, Tryz.ntmps101
 go_upto_region 1 with fail
 obtain ⟨W0, hW0⟩ : ∃ W0, (w.alloc (.cells #[.int .i64 k, .int .i64 n, .string s, .slice pl nl cl, .slice pm nm cm] 25)) = W0 := ⟨_, rfl⟩
 rw [hW0] at hA0 hB0 HB ⊢
 have hz : w.heap.size < W0.heap.size := by rw [<- hW0]; simp
 clear hW0
 generalize hbb : bareB k n s nl nm = bb at HBARE
 have HBB := Lib.hid hbb
 clear hbb
 obtain ⟨c0, c1, c2, c3, c4⟩ := hA0.cells5
 dsimp only at c0 c1 c2 c3 c4
 have HA := Lib.hid hA0
 clear hA0 hB0
 by_cases h1 : k < 1
 ·have hd1 : decide (k < 1) = true := by simpa using h1
  have HR : Hid (rightP k n s nl (rms.map (·.name)) = false) := by
   have e : decide (1 <= k) = false := by simp; omega
   unfold Hid rightP; rw [e]; simp
  go_quiet (fail)
  go_wp2_with fail
  go_ret
  exact ⟨ret_boolU HR.out.symm, bdn HB.out _⟩
 ·have hd1 : decide (k < 1) = false := by simpa using h1
  by_cases h2 : 6 < k
  ·have hd2 : decide (6 < k) = true := by simpa using h2
   have HR : Hid (rightP k n s nl (rms.map (·.name)) = false) := by
    have e : decide (k <= 6) = false := by simp; omega
    unfold Hid rightP; rw [e]; simp
   go_quiet (fail)
   go_wp2_with fail
   go_ret
   exact ⟨ret_boolU HR.out.symm, bdn HB.out _⟩
  ·have hd2 : decide (6 < k) = false := by simpa using h2
   have hzz := hz
   cases bb with
   | false =>
     have HR : Hid (rightP k n s nl (rms.map (·.name)) = false) := by
      have e : bareB k n s nl (rms.map (·.name)).length = false := by rw [List.length_map, <- HE.out]; exact HBB.out
      unfold Hid rightP; rw [e]; simp
     first
      | (go_region_with ((go_at_call 134; refine (HBARE.out _).mono ?_; rintro e w1 ⟨rfl, hb0⟩)))
      | fail
     all_goals go_wp2_with fail
     all_goals go_ret
     all_goals exact ⟨ret_boolU HR.out.symm, HB.out.trans (Below.mono (Below.trans (by first | exact Below.refl _ _ | exact (Below.refl _ _).drew) hb0) (Nat.le_of_lt hz))⟩
   | true =>
     cases hbs : badF s == s.size with
     | false =>
       have hq : ((badF s : Int) != (s.size : Int)) = true := by simp at hbs; simp; omega
       have HR : Hid (rightP k n s nl (rms.map (·.name)) = false) := by
        unfold Hid rightP; rw [hbs]; simp
       clear hbs
       first
        | (go_region_held3 (fun w' => Below W0.heap.size W0 w' /\ ∀ b o, b < W0.heap.size -> w'.cell? ⟨b, o, none⟩ = W0.cell? ⟨b, o, none⟩)
         (first | exact KB.drew W0 | exact hbk)
         (first
          | (go_at_call 134; refine (HBARE.out _).mono ?_; rintro e w1 ⟨rfl, hb0⟩; have hbk := KB.step (W := W0) (by assumption) hb0)
          | (go_at_call 135; refine (HBAD.out _).mono ?_; rintro e w1 ⟨rfl, rfl⟩)))
        | fail
       rename (Below W0.heap.size W0 _ /\ _) => hkb
       go_wp2_with fail
       go_ret
       exact ⟨ret_boolU HR.out.symm, HB.out.trans (hkb.1.mono (Nat.le_of_lt hz))⟩
     | true =>
       have hq : ((badF s : Int) != (s.size : Int)) = false := by simp at hbs; simp; omega
       generalize hgg : goodN (rms.map (·.name)) = gb at HNAM
       have HR : Hid (rightP k n s nl (rms.map (·.name)) = ((k != 2 || (n == 0 || n == 1)) && (k != 3 || (decide (-9007199254740991 <= n) && decide (n <= 9007199254740991))) && (k != 6 || (decide (8192 < (nm : Int)) || gb)))) := by
        have e : bareB k n s nl (rms.map (·.name)).length = true := by rw [List.length_map, <- HE.out]; exact HBB.out
        have e1 : decide (1 <= k) = true := by simp; omega
        have e2 : decide (k <= 6) = true := by simp; omega
        unfold Hid rightP
        have e3 : decide (8192 < nm) = decide (8192 < (nm : Int)) := by rw [decide_eq_decide]; omega
        rw [hbs, e, e1, e2, hgg, List.length_map, <- HE.out, e3]; simp
       clear hbs hgg
       first
        | (go_region_held3 (fun w' => Below W0.heap.size W0 w' /\ ∀ b o, b < W0.heap.size -> w'.cell? ⟨b, o, none⟩ = W0.cell? ⟨b, o, none⟩)
         (first | exact KB.drew W0 | exact hbk)
         (first
          | (go_at_call 134; refine (HBARE.out _).mono ?_; rintro e w1 ⟨rfl, hb0⟩; have hbk := KB.step (W := W0) (by assumption) hb0)
          | (go_at_call 135; refine (HBAD.out _).mono ?_; rintro e w1 ⟨rfl, rfl⟩)))
        | fail
       rename (Below W0.heap.size W0 _ /\ _) => hkb
       have HK := Lib.hid (HB.out.trans (hkb.1.mono (Nat.le_of_lt hz)))
       have hE : ∀ w', Below W0.heap.size W0 w' -> Below w.heap.size w w' := fun w' h => HB.out.trans (h.mono (Nat.le_of_lt hz))
       have HX := Lib.hid hE
       clear hE
       go_wp2_with (go_at_call 136; refine (HNAM.out _ HK.out).mono ?_; rintro e w2 ⟨rfl, hb2⟩; have HK2 := Lib.hid (HK.out.trans (hb2.mono HK.out.size)))
       all_goals go_ret
       all_goals refine ⟨ret_boolU ?_, by first | exact HK2.out | exact HK.out⟩
       all_goals rw [HR.out]
       all_goals clear HR HBARE HBB HBAD HNAM HX HK
       all_goals simp_all
       all_goals omega
end
end Go.Proofs.YtffhccmppdgmfaaGreatDoor
