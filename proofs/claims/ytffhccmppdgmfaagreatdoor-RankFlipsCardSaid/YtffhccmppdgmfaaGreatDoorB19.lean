import Derived.Test.YtffhccmppdgmfaaGreatDoorB18
set_option linter.unusedSimpArgs false
set_option linter.unusedVariables false
set_option maxRecDepth 200000
set_option maxHeartbeats 8000000
namespace Go.Proofs.YtffhccmppdgmfaaGreatDoor
section
open Go Go.RowKit Go.OpenShut
def fN (ys : List Nat) : Nat -> Nat := fun k => ys.getD k 0
theorem fN_at {ys : List Nat} {j : Nat} (h : j < ys.length) : ys[j]? = some (fN ys j) := by
 unfold fN
 rw [List.getD_eq_getElem?_getD, List.getElem?_eq_getElem h]
 rfl
theorem fN_swap {ys : List Nat} {i j : Nat} (hi : i < ys.length) (hj : j < ys.length) (hne : i ≠ j) : fN ((ys.set i (fN ys j)).set j (fN ys i)) = swapF (fN ys) i j := by
 rw [swapL_set ys (fN_at hi) (fN_at hj)]
 exact swapL_get hne 0
theorem grown_below {w w' : World} {row : Option Nat} (h : Below w.heap.size w w') : w.grownBy w' row := ⟨h.os, h.tape, h.output, h.size, fun k hk _ => h.block k hk⟩
theorem lt_self {lt : Nat -> Nat -> Bool} (L : LtOk lt) (a : Nat) : lt a a = false := by
 cases h : lt a a with
 | false => rfl
 | true => have := L.asym _ _ h; rw [h] at this; cases this
structure DwS (cs : List CmpD) (os : List (ByteArray × JV)) (rs : List RM) (pc : Option Addr) (nc cc base q g cap : Nat) (w : World) (xs : List Nat) (n k i : Nat) (ys : List Nat) (W : World) : Prop where
 len : ys.length = xs.length
 perm : ys.Perm xs
 out : ∀ j, n <= j -> ys[j]? = xs[j]?
 ex : HeapEx (ltQ cs os) (fN ys) n k i
 qa : QAt W base q g cap rs pc nc cc ys
 gr : w.grownBy W (some g)
theorem DwS.grown {cs : List CmpD} {os : List (ByteArray × JV)} {rs : List RM} {pc : Option Addr} {nc cc base q g cap : Nat} {w : World} {xs : List Nat} {n k i : Nat} {ys : List Nat} {W W' : World} (h : DwS cs os rs pc nc cc base q g cap w xs n k i ys W) (hb : Below W.heap.size W W') : DwS cs os rs pc nc cc base q g cap w xs n k i ys W' :=
 ⟨h.len, h.perm, h.out, h.ex, h.qa.grown hb, grownT h.gr (grown_below hb)⟩
theorem DwS.swap {cs : List CmpD} {os : List (ByteArray × JV)} {rs : List RM} {pc : Option Addr} {nc cc base q g cap : Nat} {w : World} {xs : List Nat} {n k i j : Nat} {ys : List Nat} {W W' : World} (h : DwS cs os rs pc nc cc base q g cap w xs n k i ys W) (hn : n <= xs.length) (hj : MinChild (ltQ cs os) (fN ys) n i j) (hl : ltQ cs os (fN ys j) (fN ys i) = true)
 (ho : Own W' base 97 (encQ rs) 7 (.slice (some ⟨g, 0, none⟩) ys.length cap) ((ys.set i (fN ys j)).set j (fN ys i))) (hg : W.grownBy W' (some g)) : DwS cs os rs pc nc cc base q g cap w xs n k j ((ys.set i (fN ys j)).set j (fN ys i)) W' := by
 have hjn := hj.2.1
 have hij : i < j := by have := hj.1; unfold childOf at this; omega
 have hle := h.len
 have hi' : i < ys.length := by omega
 have hj' : j < ys.length := by omega
 have hp : ((ys.set i (fN ys j)).set j (fN ys i)).Perm ys := by
  rw [swapL_set ys (fN_at hi') (fN_at hj')]
  exact swapL_perm
 refine ⟨by simp only [List.length_set]; exact hle, hp.trans h.perm, fun t ht => ?_, ?_, ?_, grownT h.gr hg⟩
 ·rw [List.getElem?_set, if_neg (by omega), List.getElem?_set, if_neg (by omega)]
  exact h.out t ht
 ·rw [fN_swap hi' hj' (by omega)]
  exact h.ex.swap (ltQ_ok cs os) hj hl
 ·exact h.qa.turned hg (by simp only [List.length_set]) ho (fun y hy => h.qa.bnd y (hp.mem_iff.1 hy))
theorem down_any (cs : List CmpD) (os : List (ByteArray × JV)) (rs : List RM) (pc : Option Addr) (nc cc base B q g cap i0 n k : Nat) (xs : List Nat) (w : World) (env : QEnv w B cs os rs pc nc cc) (hB : B <= base) (hn : n <= xs.length) (hi0 : i0 <= 1000000000000) (hx : xs.length <= 1000000000000)
 (h : DwS cs os rs pc nc cc base q g cap w xs n k i0 xs w) :
 Calls Tryz.prog 102 #[.iface 91 (.pointer (some ⟨q, 0, none⟩)), .int .i64 (i0 : Int), .int .i64 (n : Int)] w fun e w' => ∃ b ys, e = .returned (.bool b) /\ ys.length = xs.length /\ ys.Perm xs /\ (∀ j, n <= j -> ys[j]? = xs[j]?) /\ HeapF (ltQ cs os) (fN ys) n k /\ QAt w' base q g cap rs pc nc cc ys /\ w.grownBy w' (some g) := by
 have HENV : Hid (∀ W, w.grownBy W (some g) -> QEnv W B cs os rs pc nc cc) := fun W hg => env.below (h.qa.keep hg hB)
 have HL : Hid (∀ (ys : List Nat) (W : World) (a b : Nat), QAt W base q g cap rs pc nc cc ys -> w.grownBy W (some g) -> a < ys.length -> b < ys.length -> Calls Tryz.prog 238 #[.pointer (some ⟨q, 0, none⟩), .int .i64 (a : Int), .int .i64 (b : Int)] W fun e w' => e = .returned (.bool (ltQ cs os (fN ys a) (fN ys b))) /\ Below W.heap.size W w') := fun ys W a b hq hg ha hb =>
  less_any cs os rs pc nc cc base B q g cap a b _ _ ys W (HENV.out W hg) hq hB (fN_at ha) (fN_at hb)
 have HS0 := Lib.hid h
 have LO := Lib.hid (ltQ_ok cs os)
 have n0 : (0 : Int) <= (n : Int) := Int.natCast_nonneg _
 have hnb : n <= 1000000000000 := by omega
 have nb : (n : Int) <= 1000000000000 := by omega
 have hml : ∀ w, Sem.run Tryz.prog (method 359 91 (.pointer (some ⟨q, 0, none⟩)) "Less") w = .ok (238, .pointer (some ⟨q, 0, none⟩)) w := mth_less q
 clear env h
 go_enter Tryz.func102, Tryz.ntmps102
 go_wp2_with fail
 go_loopw [7] (fun v wr => ∃ i ys, v = .int .i64 ((i : Nat) : Int) /\ i <= 1000000000000 /\ Hid (DwS cs os rs pc nc cc base q g cap w xs n k i ys wr)) (fun v _ => n - (intOf v).toNat)
 case atStart => exact ⟨i0, xs, rfl, hi0, HS0.out⟩
 case round =>
  obtain ⟨i, ys, rfl, hib, hS⟩ := hrel
  have hle := hS.out.len
  have i0' : (0 : Int) <= (i : Int) := Int.natCast_nonneg _
  have ib' : (i : Int) <= 1000000000000 := by omega
  obtain ⟨J, hJ⟩ : ∃ J : Nat, 2 * i + 1 = J := ⟨_, rfl⟩
  have hJe : 2 * (i : Int) + 1 = (J : Int) := by omega
  have HJ := Lib.hid hJ
  have J0 : (0 : Int) <= (J : Int) := Int.natCast_nonneg _
  have Jb : (J : Int) <= 2000000000001 := by omega
  have q2 : decide ((J : Int) < 0) = false := decide_eq_false (by omega)
  have hiJ : i < J := by omega
  clear hJ
  by_cases hlt : J < n
  ·have q1 : decide ((n : Int) <= (J : Int)) = false := decide_eq_false (by omega)
   have hgr := hS.out.gr
   have HLJ := Lib.hid (HL.out ys wr (J + 1) J hS.out.qa hgr)
   obtain ⟨J2, hJ2⟩ : ∃ J2 : Nat, J + 1 = J2 := ⟨_, rfl⟩
   have hJ2e : (J : Int) + 1 = (J2 : Int) := by omega
   rw [hJ2] at HLJ
   have HJ2 := Lib.hid hJ2
   have J20 : (0 : Int) <= (J2 : Int) := Int.natCast_nonneg _
   have hJJ : J < J2 := by omega
   have hJ2l : J2 <= 2000000000002 := by omega
   clear hJ2
   by_cases hl2 : J2 < n
   ·have q3 : decide (J2 < n) = true := decide_eq_true hl2
    have q3' : decide ((J2 : Int) < (n : Int)) = true := decide_eq_true (by omega)
    have hc := Lib.hid (HLJ.out (by omega) (by omega))
    obtain ⟨L, hL⟩ : ∃ L, ltQ cs os (fN ys J2) (fN ys J) = L := ⟨_, rfl⟩
    rw [hL] at hc
    have HLL := Lib.hid hL
    clear hL
    cases L
    ·have HM : Hid (MinChild (ltQ cs os) (fN ys) n i J) := ⟨.inl (by have := HJ.out; omega), hlt, fun c hc1 hc2 => by
      have h1 := HJ.out
      have h2 := HJ2.out
      rcases hc1 with hc1 | hc1
      ·obtain rfl : c = J := by omega
       exact lt_self LO.out _
      ·obtain rfl : c = J2 := by omega
       exact HLL.out⟩
     have hc2 := Lib.hid (HL.out ys)
     obtain ⟨L2, hL2⟩ : ∃ L, ltQ cs os (fN ys J) (fN ys i) = L := ⟨_, rfl⟩
     have HC2 : Hid (∀ W, Below wr.heap.size wr W -> Calls Tryz.prog 238 #[.pointer (some ⟨q, 0, none⟩), .int .i64 (J : Int), .int .i64 (i : Int)] W fun e w' => e = .returned (.bool L2) /\ Below W.heap.size W w') := fun W hW => by
      rw [<- hL2]
      exact HL.out ys W J i (hS.out.qa.grown hW) (hS.out.grown hW).gr (by have := HM.out.2.1; omega) (by have := HM.out.2.1; omega)
     have HLL2 := Lib.hid hL2
     clear hL2 hc2
     cases L2
     ·obtain ⟨b, hb⟩ : ∃ b, decide (i0 < i) = b := ⟨_, rfl⟩
      go_wp2_with (first | (go_at_call 238; (with_reducible refine hc.out.mono ?_); rintro e w2 ⟨rfl, hb2⟩) | (go_at_call 238; (with_reducible refine (HC2.out _ hb2).mono ?_); rintro e w4 ⟨rfl, hb4⟩) | fail)
      go_ret
      have hD := (hS.out.grown hb2).grown hb4
      exact ⟨b, ys, rfl, hD.len, hD.perm, hD.out, hD.ex.stop LO.out HM.out HLL2.out, hD.qa, hD.gr⟩
     ·go_upto_region 9 with (first | (go_at_call 238; (with_reducible refine hc.out.mono ?_); rintro e w2 ⟨rfl, hb2⟩) | (go_at_call 238; (with_reducible refine (HC2.out _ hb2).mono ?_); rintro e w4 ⟨rfl, hb4⟩) | fail)
      have hD := (hS.out.grown hb2).grown hb4
      have hsw := mth_swap q w4 _ hD.qa.q0
      have hxl := hD.qa.xlen
      unfold maxLen at hxl
      have HC := Lib.hid (qswap_any (codecQ rs) ys base g cap i J (fN ys i) (fN ys J) w4 hD.qa.own (fN_at (by have := HM.out.2.1; omega)) (fN_at (by have := HM.out.2.1; omega)) (by omega))
      rw [hle] at HC
      have HDD := Lib.hid hD
      have hjn := HM.out.2.1
      clear hD hxl hb4 hb2
      go_wp2_with (first | (go_at_call 240; (with_reducible refine HC.out.mono ?_); rintro e w5 ⟨rfl, ho5, hg5⟩) | fail)
      go_roundw
      case rel => exact ⟨J, _, rfl, by omega, HDD.out.swap hn HM.out HLL2.out (by rw [hle]; exact ho5) hg5⟩
      case measure => simp [intOf]; omega
    ·have HM : Hid (MinChild (ltQ cs os) (fN ys) n i J2) := ⟨.inr (by have := HJ.out; have := HJ2.out; omega), hl2, fun c hc1 hc2 => by
      have h1 := HJ.out
      have h2 := HJ2.out
      rcases hc1 with hc1 | hc1
      ·obtain rfl : c = J := by omega
       exact LO.out.asym _ _ HLL.out
      ·obtain rfl : c = J2 := by omega
       exact lt_self LO.out _⟩
     have hc2 := Lib.hid (HL.out ys)
     obtain ⟨L2, hL2⟩ : ∃ L, ltQ cs os (fN ys J2) (fN ys i) = L := ⟨_, rfl⟩
     have HC2 : Hid (∀ W, Below wr.heap.size wr W -> Calls Tryz.prog 238 #[.pointer (some ⟨q, 0, none⟩), .int .i64 (J2 : Int), .int .i64 (i : Int)] W fun e w' => e = .returned (.bool L2) /\ Below W.heap.size W w') := fun W hW => by
      rw [<- hL2]
      exact HL.out ys W J2 i (hS.out.qa.grown hW) (hS.out.grown hW).gr (by have := HM.out.2.1; omega) (by have := HM.out.2.1; omega)
     have HLL2 := Lib.hid hL2
     clear hL2 hc2
     cases L2
     ·obtain ⟨b, hb⟩ : ∃ b, decide (i0 < i) = b := ⟨_, rfl⟩
      go_wp2_with (first | (go_at_call 238; (with_reducible refine hc.out.mono ?_); rintro e w2 ⟨rfl, hb2⟩) | (go_at_call 238; (with_reducible refine (HC2.out _ hb2).mono ?_); rintro e w4 ⟨rfl, hb4⟩) | fail)
      go_ret
      have hD := (hS.out.grown hb2).grown hb4
      exact ⟨b, ys, rfl, hD.len, hD.perm, hD.out, hD.ex.stop LO.out HM.out HLL2.out, hD.qa, hD.gr⟩
     ·go_upto_region 9 with (first | (go_at_call 238; (with_reducible refine hc.out.mono ?_); rintro e w2 ⟨rfl, hb2⟩) | (go_at_call 238; (with_reducible refine (HC2.out _ hb2).mono ?_); rintro e w4 ⟨rfl, hb4⟩) | fail)
      have hD := (hS.out.grown hb2).grown hb4
      have hsw := mth_swap q w4 _ hD.qa.q0
      have hxl := hD.qa.xlen
      unfold maxLen at hxl
      have HC := Lib.hid (qswap_any (codecQ rs) ys base g cap i J2 (fN ys i) (fN ys J2) w4 hD.qa.own (fN_at (by have := HM.out.2.1; omega)) (fN_at (by have := HM.out.2.1; omega)) (by omega))
      rw [hle] at HC
      have HDD := Lib.hid hD
      have hjn := HM.out.2.1
      clear hD hxl hb4 hb2
      go_wp2_with (first | (go_at_call 240; (with_reducible refine HC.out.mono ?_); rintro e w5 ⟨rfl, ho5, hg5⟩) | fail)
      go_roundw
      case rel => exact ⟨J2, _, rfl, by omega, HDD.out.swap hn HM.out HLL2.out (by rw [hle]; exact ho5) hg5⟩
      case measure => simp [intOf]; omega
   ·have q3 : decide (J2 < n) = false := decide_eq_false hl2
    have q3' : decide ((J2 : Int) < (n : Int)) = false := decide_eq_false (by omega)
    have HM : Hid (MinChild (ltQ cs os) (fN ys) n i J) := ⟨.inl (by have := HJ.out; omega), hlt, fun c hc1 hc2 => by
              have h1 := HJ.out
              have h2 := HJ2.out
              rcases hc1 with hc1 | hc1
              ·obtain rfl : c = J := by omega
               exact lt_self LO.out _
              ·omega⟩
    have hc2 := Lib.hid (HL.out ys)
    obtain ⟨L2, hL2⟩ : ∃ L, ltQ cs os (fN ys J) (fN ys i) = L := ⟨_, rfl⟩
    have HC2 : Hid (∀ W, Below wr.heap.size wr W -> Calls Tryz.prog 238 #[.pointer (some ⟨q, 0, none⟩), .int .i64 (J : Int), .int .i64 (i : Int)] W fun e w' => e = .returned (.bool L2) /\ Below W.heap.size W w') := fun W hW => by
     rw [<- hL2]
     exact HL.out ys W J i (hS.out.qa.grown hW) (hS.out.grown hW).gr (by have := HM.out.2.1; omega) (by have := HM.out.2.1; omega)
    have HLL2 := Lib.hid hL2
    clear hL2 hc2
    cases L2
    ·obtain ⟨b, hb⟩ : ∃ b, decide (i0 < i) = b := ⟨_, rfl⟩
     go_wp2_with (first  | (go_at_call 238; (with_reducible refine (HC2.out _ (Below.refl wr.heap.size wr)).mono ?_); rintro e w4 ⟨rfl, hb4⟩) | fail)
     go_ret
     have hD := (hS.out.grown (Below.refl wr.heap.size wr)).grown hb4
     exact ⟨b, ys, rfl, hD.len, hD.perm, hD.out, hD.ex.stop LO.out HM.out HLL2.out, hD.qa, hD.gr⟩
    ·go_upto_region 9 with (first  | (go_at_call 238; (with_reducible refine (HC2.out _ (Below.refl wr.heap.size wr)).mono ?_); rintro e w4 ⟨rfl, hb4⟩) | fail)
     have hD := (hS.out.grown (Below.refl wr.heap.size wr)).grown hb4
     have hsw := mth_swap q w4 _ hD.qa.q0
     have hxl := hD.qa.xlen
     unfold maxLen at hxl
     have HC := Lib.hid (qswap_any (codecQ rs) ys base g cap i J (fN ys i) (fN ys J) w4 hD.qa.own (fN_at (by have := HM.out.2.1; omega)) (fN_at (by have := HM.out.2.1; omega)) (by omega))
     rw [hle] at HC
     have HDD := Lib.hid hD
     have hjn := HM.out.2.1
     clear hD hxl hb4
     go_wp2_with (first | (go_at_call 240; (with_reducible refine HC.out.mono ?_); rintro e w5 ⟨rfl, ho5, hg5⟩) | fail)
     go_roundw
     case rel => exact ⟨J, _, rfl, by omega, HDD.out.swap hn HM.out HLL2.out (by rw [hle]; exact ho5) hg5⟩
     case measure => simp [intOf]; omega
  ·have q1 : decide ((n : Int) <= (J : Int)) = true := decide_eq_true (by omega)
   obtain ⟨b, hb⟩ : ∃ b, decide (i0 < i) = b := ⟨_, rfl⟩
   go_wp2_with fail
   go_ret
   exact ⟨b, ys, rfl, hS.out.len, hS.out.perm, hS.out.out, hS.out.ex.leaf (by have := HJ.out; omega), hS.out.qa, hS.out.gr⟩
end
end Go.Proofs.YtffhccmppdgmfaaGreatDoor
