import Derived.Test.YtffhccmppdgmfaaGreatDoorC13
import Derived.RangeFuncNested
import Derived.RangeFuncBound
import Derived.RangeFuncCalls
import Derived.RangeFuncLeaves
import Derived.RangeFuncBox
import Derived.Shelf.Abstract
import Derived.OwnWalkIn
import Derived.TacticsInMore
import Derived.LoopNIn
import Derived.LoopIn
import Derived.Sort.LoopGhostIn
import Derived.Sort.CutIn
import Derived.Stop.RegionWithIn
set_option linter.unusedSimpArgs false
set_option linter.unusedVariables false
set_option maxRecDepth 200000
set_option maxHeartbeats 8000000
namespace Go.Proofs.YtffhccmppdgmfaaGreatDoor
section
open Go Go.RowKit Go.OpenShut Go.Shelf
attribute [local go_sem] Oper.semAt_some
theorem toB_nil : toB [] = ⟨#[]⟩ := rfl
theorem bytes_cons {x : ByteArray} (h : 0 < x.size) : x.data.toList = x[0] :: x.data.toList.drop 1 := by
 have h1 : x.data.toList[0]? = some x[0] := get_optS h
 cases hl : x.data.toList with
 | nil => rw [hl] at h1; simp at h1
 | cons a r =>
   rw [hl] at h1
   simp at h1
   rw [<- h1]
   rfl
theorem termsF_pos {l t : List UInt8} {r : List (List UInt8)} (h : termsF l = t :: r) : 0 < (termsF l).length := by rw [h]; simp
theorem world_stepIn {F : Fence} {n : Nat} {P : Program} {c : Code} {Q : Exit -> Act -> World -> Prop} {a : Act} {W : World} (R : World -> Prop) (h : R W) (k : ∀ W1, R W1 -> c.wpIn F n P Q a W1) : c.wpIn F n P Q a W := k _ h
theorem toB_list (l : List UInt8) : (toB l).data.toList = l := by simp [toB]
theorem toB_tl (l : List UInt8) : (toB l).toList = l := by rw [ByteArray.toList_eq]; exact toB_list l
theorem iterJ {J : List (List UInt8) -> World -> Prop} {s : List (List UInt8)} {bq : Nat} {wr X : World} (HJ : ∀ s X Y, J s X -> X.grownBy Y (some bq) -> J s Y) (h : J s wr) (v : Value) (h1 : wr.grownBy X (some bq)) : J s (X.setCell ⟨bq, 0, none⟩ v) :=
 HJ _ _ _ h (World.grownBy.trans h1 (grownBy_setCell' X bq v))
theorem iter_in (F : Fence) (hFw : F = Fence.wide) (n : Nat) (hn : 1 <= n) (l bq b3 b4 N : Nat) (J : List (List UInt8) -> World -> Prop) (q0 : ByteArray) (hs : q0.size <= 1000000) (hN : q0.size <= N) (n3 : bq ≠ b3) (n4 : bq ≠ b4)
 (hJ : ∀ s X Y, J s X -> X.grownBy Y (some bq) -> J s Y)
 (hY : ∀ pre x W, J pre W -> pre.length < N -> YieldAt F (n - 1) Tryz.prog l #[.string (toB x)] W fun e W' => e = .returned (.bool true) /\ J (pre ++ [x]) W' /\ ∀ b, b = bq \/ b = b3 \/ b = b4 -> W'.heap[b]? = W.heap[b]?)
 (W : World) (hq : Boxed W bq 9 (.string q0)) (h3 : Boxed W b3 157 (.func (.func 128) #[] #[])) (h4 : Boxed W b4 157 (.func (.func 129) #[] #[])) (h0 : J [] W) :
 CallsIn F n Tryz.prog 130 #[.func (.yield l) #[] #[], .pointer (some ⟨bq, 0, none⟩), .pointer (some ⟨b3, 0, none⟩), .pointer (some ⟨b4, 0, none⟩)] W fun e W' => (∃ v, e = .returned v) /\ J (termsF q0.data.toList) W' := by
 have hro : F.round = none := by rw [hFw]; rfl
 have hfn : ∀ f, F.fn f := fun f => by rw [hFw]; trivial
 have HF := Lib.hid hFw
 have HJ := Lib.hid hJ
 have HY := Lib.hid hY
 clear hFw hJ hY
 refine callsIn_of_wp Tryz.func130 rfl (hfn _) ?_ hro
 simp only [Tryz.ntmps130, List.size_toArray, List.length_cons, List.length_nil, Nat.reduceAdd, Nat.reduceSub, Array.replicate_succ, Array.replicate_zero, List.push_toArray, List.append_toArray, List.nil_append, List.cons_append]
 gi_wp2
 gi_loopg [5] q0.size (fun gk u5 wr => ∃ (x : ByteArray) (pre : List (List UInt8)), x.size <= gk /\ x.size <= q0.size /\ Hid (pre ++ termsF x.data.toList = termsF q0.data.toList) /\ Hid (Boxed wr bq 9 (.string x) /\ Boxed wr b3 157 (.func (.func 128) #[] #[]) /\ Boxed wr b4 157 (.func (.func 129) #[] #[]) /\ J pre wr))
 case atStart => exact ⟨q0, [], Nat.le_refl _, Nat.le_refl _, rfl, hq, h3, h4, h0⟩
 case round =>
  obtain ⟨x, pre, hgk, hxs, HP, HB⟩ := hrel
  obtain ⟨bq0, b30, b40, hj⟩ := HB.out
  have cq := bq0.cell
  have fq := bq0.frozen
  have c3 := b30.cell
  have c4 := b40.cell
  have lq := bq0.lt
  clear HB
  have HBQ := Lib.hid bq0
  have HB3 := Lib.hid b30
  have HB4 := Lib.hid b40
  have HJJ := Lib.hid hj
  clear bq0 b30 b40 hj
  by_cases hx0 : x.size = 0
  ·have e0 : x = ⟨#[]⟩ := by
    apply ByteArray.ext
    exact Array.eq_empty_of_size_eq_zero hx0
   subst e0
   have HP2 : Hid (pre = termsF q0.data.toList) := by
    have := HP.out
    rw [show (⟨#[]⟩ : ByteArray).data.toList = [] from rfl, termsF_nil, List.append_nil] at this
    exact this
   clear hx0 HP
   gi_wp2
   go_end0
   exact ⟨⟨_, rfl⟩, by rw [<- HP2.out]; exact HJJ.out⟩
  ·have hx1 : 0 < x.size := by omega
   have hcons := bytes_cons hx1
   obtain ⟨c, hc⟩ : ∃ c, x[0] = c := ⟨_, rfl⟩
   rw [hc] at hcons
   obtain ⟨r, hr⟩ : ∃ r, x.data.toList.drop 1 = r := ⟨_, rfl⟩
   have HR0 := Lib.hid hr.symm
   rw [hr] at hcons
   have HCO := Lib.hid hcons
   have hne : x.toList = c :: r := by rw [ByteArray.toList_eq]; exact hcons
   have HNE : Hid (x.toList = c :: r) := hne
   have e1 : (x.toList == []) = false := by rw [hne]; rfl
   have e2 : (x.toList != []) = true := by rw [hne]; rfl
   have e3 : x.toList.isEmpty = false := by rw [hne]; rfl
   have hcl := c.toNat_lt
   clear hcons hne hr
   have hxt : (x.extract 1 x.size).size = x.size - 1 := by rw [ByteArray.size_extract]; omega
   have hxl : (x.extract 1 x.size).data.toList = r := by rw [extE, toB_list, <- HR0.out]
   have HXL := Lib.hid hxl
   clear hxl
   by_cases h32 : c = 32
   ·subst h32
    have f32 : ((((32 : UInt8).toNat : Nat) : Int) == 32) = true := by decide
    have f34 : ((((32 : UInt8).toNat : Nat) : Int) == 34) = false := by decide
    gi_wp2
    gi_roundg (x.size - 1)
    case rel =>
     refine ⟨x.extract 1 x.size, pre, by omega, by omega, ?_, HBQ.out.set _, HB3.out.other (Ne.symm n3) _, HB4.out.other (Ne.symm n4) _, iterJ HJ.out HJJ.out _ (World.grownBy.refl _ _)⟩
     unfold Hid
     rw [HXL.out, <- HP.out, HCO.out, termsF_sp]
    case measure => omega
   ·have f32 : (((c.toNat : Nat) : Int) == 32) = false := by
     rw [beq_eq_false_iff_ne]
     intro h
     exact h32 (UInt8.toNat_inj.1 (show c.toNat = (32 : UInt8).toNat from by have : (32 : UInt8).toNat = 32 := rfl; omega))
    by_cases h34 : c = 34
    ·have f34 : (((c.toNat : Nat) : Int) == 34) = true := by rw [h34]; rfl
     obtain ⟨A, hA⟩ : ∃ A, r.takeWhile notQ = A := ⟨_, rfl⟩
     obtain ⟨D, hD⟩ : ∃ A, r.dropWhile notQ = A := ⟨_, rfl⟩
     have HPP : Hid (pre ++ ((if A = [] then [] else [A]) ++ termsF (D.drop 1)) = termsF q0.data.toList) := by
      unfold Hid
      rw [<- HP.out, HCO.out, h34, termsF_q, hA, hD]
     have hDL : D.length <= r.length := by rw [<- hD]; exact dropW_len r
     have hrl : r.length = x.size - 1 := by rw [<- HXL.out, Array.length_toList]; exact hxt
     have HU : Hid (∀ w, CallsIn F (n - 1) Tryz.prog 131 #[.string (x.extract 1 x.size), .func (.func 128) #[] #[]] w fun e w' => e = .returned (.tuple #[.string (toB A), .string (toB D)]) /\ ∃ m, w' = w.drewN m) := by
      intro w
      rw [HF.out]
      have := (callsIn_wide (n := n - 1)).2 (untilQ_any (x.extract 1 x.size) w (by unfold maxLen; omega))
      rw [HXL.out, hA, hD] at this
      exact this
     clear hA hD h34
     gi_upto_region 7 with fail
     gi_region_with (gi_at_call 131; (with_reducible refine (HU.out _).mono ?_); rintro e w1 ⟨rfl, m, rfl⟩)
     all_goals (
      gi_upto_region 8 with fail
      refine world_stepIn (fun W1 => Hid (Boxed W1 bq 9 (.string (toB D))) /\ Hid (Boxed W1 b3 157 (.func (.func 128) #[] #[])) /\ Hid (Boxed W1 b4 157 (.func (.func 129) #[] #[])) /\ J pre W1) ⟨Boxed.set _ HBQ.out, Boxed.other HB3.out (Ne.symm n3) _, Boxed.other HB4.out (Ne.symm n4) _, iterJ HJ.out HJJ.out _ ⟨rfl, rfl, rfl, Nat.le_refl _, fun _ _ _ => rfl⟩⟩ ?_
      rintro W0 ⟨hq0, h30, h40, hj0⟩
      have cq0 := hq0.out.cell
      have fq0 := hq0.out.frozen
      have lq0 := hq0.out.lt
      have HJ0 := Lib.hid hj0
      clear hj0 cq fq c3 c4 lq HBQ HB3 HB4 HJJ e1 e2 e3
      cases D with
      | nil =>
        rw [show toB [] = ⟨#[]⟩ from rfl] at *
        gi_upto_region 10 with fail
        refine world_stepIn (fun W1 => Hid (Boxed W1 bq 9 (.string (toB ([])))) /\ Hid (Boxed W1 b3 157 (.func (.func 128) #[] #[])) /\ Hid (Boxed W1 b4 157 (.func (.func 129) #[] #[])) /\ J pre W1) ⟨hq0.out, h30.out, h40.out, HJ0.out⟩ ?_
        rintro W1 ⟨hq1, h31, h41, hj1⟩
        cases A with
        | nil =>
          have HPE : Hid (pre ++ termsF ([]) = termsF q0.data.toList) := HPP.out
          clear HPP
          rw [show toB [] = ⟨#[]⟩ from rfl]
          gi_wp2
          gi_roundg ((toB ([])).size)
          case rel => exact ⟨toB ([]), pre, Nat.le_refl _, by rw [toB_size]; omega, by unfold Hid; rw [toB_list]; exact HPE.out, hq1.out, h31.out, h41.out, hj1⟩
          case measure => rw [toB_size]; omega
        | cons a0 a1 =>
          have HPE : Hid (pre ++ ([a0 :: a1] ++ termsF ([])) = termsF q0.data.toList) := HPP.out
          clear HPP
          have t1a : (toB (a0 :: a1)).toList = a0 :: a1 := toB_tl _
          have t2a : ((toB (a0 :: a1)).toList == []) = false := by rw [t1a]; rfl
          have t3a : ((toB (a0 :: a1)).toList != []) = true := by rw [t1a]; rfl
          have t4a : (toB (a0 :: a1)).toList.isEmpty = false := by rw [t1a]; rfl
          clear t1a
          have HLN : Hid (pre.length < N) := by
           have h1 := congrArg List.length HPE.out
           have h2 := termsF_len q0.data.toList
           have h3 : q0.data.toList.length = q0.size := by rw [Array.length_toList]; rfl
           simp only [List.length_append, List.length_cons, List.length_nil] at h1
           unfold Hid
           omega
          obtain ⟨fn, tmps, assign, body, hy, hR⟩ := HY.out pre (a0 :: a1) W1 hj1 HLN.out
          have hR' := Lib.hid hR
          clear hR
          gi_wp2
          refine hR'.out.mono ?_
          rintro e W3 ⟨rfl, hJ3, hk3⟩
          gi_wp2
          gi_roundg ((toB ([])).size)
          case rel => exact ⟨toB ([]), pre ++ [a0 :: a1], Nat.le_refl _, by rw [toB_size]; omega, by unfold Hid; rw [toB_list, List.append_assoc]; exact HPE.out, (hk3 bq (.inl rfl)).trans hq1.out, (hk3 b3 (.inr (.inl rfl))).trans h31.out, (hk3 b4 (.inr (.inr rfl))).trans h41.out, hJ3⟩
          case measure => rw [toB_size]; omega
      | cons d0 d1 =>
        have t1d : (toB (d0 :: d1)).toList = d0 :: d1 := toB_tl _
        have t2d : ((toB (d0 :: d1)).toList == []) = false := by rw [t1d]; rfl
        have t3d : ((toB (d0 :: d1)).toList != []) = true := by rw [t1d]; rfl
        have t4d : (toB (d0 :: d1)).toList.isEmpty = false := by rw [t1d]; rfl
        clear t1d
        have hdz : (toB (d0 :: d1)).size = d1.length + 1 := by rw [toB_size]; rfl
        have hdl : d1.length + 1 <= r.length := hDL
        have hde : Hid ((toB (d0 :: d1)).extract 1 (d1.length + 1) = toB d1) := by unfold Hid; rw [<- hdz, extE, toB_list]; rfl
        gi_upto_region 10 with fail
        refine world_stepIn (fun W1 => Hid (Boxed W1 bq 9 (.string (toB (d1)))) /\ Hid (Boxed W1 b3 157 (.func (.func 128) #[] #[])) /\ Hid (Boxed W1 b4 157 (.func (.func 129) #[] #[])) /\ J pre W1) ⟨(by rw [hde.out]; exact Boxed.set _ hq0.out), Boxed.other h30.out (Ne.symm n3) _, Boxed.other h40.out (Ne.symm n4) _, iterJ HJ.out HJ0.out _ (World.grownBy.refl _ _)⟩ ?_
        rintro W1 ⟨hq1, h31, h41, hj1⟩
        cases A with
        | nil =>
          have HPE : Hid (pre ++ termsF (d1) = termsF q0.data.toList) := HPP.out
          clear HPP
          rw [show toB [] = ⟨#[]⟩ from rfl]
          gi_wp2
          gi_roundg ((toB (d1)).size)
          case rel => exact ⟨toB (d1), pre, Nat.le_refl _, by rw [toB_size]; omega, by unfold Hid; rw [toB_list]; exact HPE.out, hq1.out, h31.out, h41.out, hj1⟩
          case measure => rw [toB_size]; omega
        | cons a0 a1 =>
          have HPE : Hid (pre ++ ([a0 :: a1] ++ termsF (d1)) = termsF q0.data.toList) := HPP.out
          clear HPP
          have t1a : (toB (a0 :: a1)).toList = a0 :: a1 := toB_tl _
          have t2a : ((toB (a0 :: a1)).toList == []) = false := by rw [t1a]; rfl
          have t3a : ((toB (a0 :: a1)).toList != []) = true := by rw [t1a]; rfl
          have t4a : (toB (a0 :: a1)).toList.isEmpty = false := by rw [t1a]; rfl
          clear t1a
          have HLN : Hid (pre.length < N) := by
           have h1 := congrArg List.length HPE.out
           have h2 := termsF_len q0.data.toList
           have h3 : q0.data.toList.length = q0.size := by rw [Array.length_toList]; rfl
           simp only [List.length_append, List.length_cons, List.length_nil] at h1
           unfold Hid
           omega
          obtain ⟨fn, tmps, assign, body, hy, hR⟩ := HY.out pre (a0 :: a1) W1 hj1 HLN.out
          have hR' := Lib.hid hR
          clear hR
          gi_wp2
          refine hR'.out.mono ?_
          rintro e W3 ⟨rfl, hJ3, hk3⟩
          gi_wp2
          gi_roundg ((toB (d1)).size)
          case rel => exact ⟨toB (d1), pre ++ [a0 :: a1], Nat.le_refl _, by rw [toB_size]; omega, by unfold Hid; rw [toB_list, List.append_assoc]; exact HPE.out, (hk3 bq (.inl rfl)).trans hq1.out, (hk3 b3 (.inr (.inl rfl))).trans h31.out, (hk3 b4 (.inr (.inr rfl))).trans h41.out, hJ3⟩
          case measure => rw [toB_size]; omega)
    ·have f34 : (((c.toNat : Nat) : Int) == 34) = false := by
      rw [beq_eq_false_iff_ne]
      intro h
      exact h34 (UInt8.toNat_inj.1 (show c.toNat = (34 : UInt8).toNat from by have : (34 : UInt8).toNat = 34 := rfl; omega))
     obtain ⟨A, hA⟩ : ∃ A, (c :: r).takeWhile notE = A := ⟨_, rfl⟩
     obtain ⟨D, hD⟩ : ∃ A, (c :: r).dropWhile notE = A := ⟨_, rfl⟩
     have HPE : Hid (pre ++ ([A] ++ termsF D) = termsF q0.data.toList) := by
      unfold Hid
      rw [<- HP.out, HCO.out, termsF_e h32 h34, hA, hD]
      rfl
     have hAne : A ≠ [] := by rw [<- hA]; exact takeW_ne h32 h34 r
     have hrl : r.length = x.size - 1 := by rw [<- HXL.out, Array.length_toList]; exact hxt
     have hDL : D.length <= r.length := by rw [<- hD, dropW_cons (notE_yes h32 h34)]; exact dropW_len r
     have HU : Hid (∀ w, CallsIn F (n - 1) Tryz.prog 131 #[.string x, .func (.func 129) #[] #[]] w fun e w' => e = .returned (.tuple #[.string (toB A), .string (toB D)]) /\ ∃ m, w' = w.drewN m) := by
      intro w
      rw [HF.out]
      have := (callsIn_wide (n := n - 1)).2 (untilE_any x w (by unfold maxLen; omega))
      rw [HCO.out, hA, hD] at this
      exact this
     clear hA hD
     gi_upto_region 3 with fail
     gi_upto_region 10 with (gi_at_call 131; (with_reducible refine (HU.out _).mono ?_); rintro e w1 ⟨rfl, m, rfl⟩)
     refine world_stepIn (fun W1 => Hid (Boxed W1 bq 9 (.string (toB D))) /\ Hid (Boxed W1 b3 157 (.func (.func 128) #[] #[])) /\ Hid (Boxed W1 b4 157 (.func (.func 129) #[] #[])) /\ J pre W1) ⟨Boxed.set _ HBQ.out, Boxed.other HB3.out (Ne.symm n3) _, Boxed.other HB4.out (Ne.symm n4) _, iterJ HJ.out HJJ.out _ ⟨rfl, rfl, rfl, Nat.le_refl _, fun _ _ _ => rfl⟩⟩ ?_
     rintro W1 ⟨hq1, h31, h41, hj1⟩
     clear cq fq c3 c4 lq HBQ HB3 HB4 HJJ e1 e2 e3
     cases A with
     | nil => exact (hAne rfl).elim
     | cons a0 a1 =>
       clear hAne
       have t1a : (toB (a0 :: a1)).toList = a0 :: a1 := toB_tl _
       have t2a : ((toB (a0 :: a1)).toList == []) = false := by rw [t1a]; rfl
       have t3a : ((toB (a0 :: a1)).toList != []) = true := by rw [t1a]; rfl
       have t4a : (toB (a0 :: a1)).toList.isEmpty = false := by rw [t1a]; rfl
       clear t1a
       have HLN : Hid (pre.length < N) := by
        have h1 := congrArg List.length HPE.out
        have h2 := termsF_len q0.data.toList
        have h3 : q0.data.toList.length = q0.size := by rw [Array.length_toList]; rfl
        simp only [List.length_append, List.length_cons, List.length_nil] at h1
        unfold Hid
        omega
       obtain ⟨fn, tmps, assign, body, hy, hR⟩ := HY.out pre (a0 :: a1) W1 hj1 HLN.out
       have hR' := Lib.hid hR
       clear hR
       gi_wp2
       refine hR'.out.mono ?_
       rintro e W3 ⟨rfl, hJ3, hk3⟩
       gi_wp2
       gi_roundg ((toB (D)).size)
       case rel => exact ⟨toB (D), pre ++ [a0 :: a1], Nat.le_refl _, by rw [toB_size]; omega, by unfold Hid; rw [toB_list, List.append_assoc]; exact HPE.out, (hk3 bq (.inl rfl)).trans hq1.out, (hk3 b3 (.inr (.inl rfl))).trans h31.out, (hk3 b4 (.inr (.inr rfl))).trans h41.out, hJ3⟩
       case measure => rw [toB_size]; omega
end
end Go.Proofs.YtffhccmppdgmfaaGreatDoor
