import Derived.Test.YtanemojiaahbgaaGreatDoorSf38
import Derived.Test.YtanemojiaahbgaaGreatDoorSf13
import Derived.Test.YtanemojiaahbgaaGreatDoorSf01
import Derived.Test.YtanemojiaahbgaaGreatDoorSf04
import Derived.Test.YtanemojiaahbgaaGreatDoorSf09
import Derived.BigQuiet
import Derived.Deep.RegionHeld3
import Derived.Test.YtanemojiaahbgaaGreatDoorSf36
import Derived.WalkLawsBesides
import Derived.Test.YtanemojiaahbgaaGreatDoorSf11
import Derived.RangeFuncNested
import Derived.RangeFuncBound
import Derived.RangeFuncCalls
import Derived.RangeFuncLeaves
import Derived.Shelf.Abstract
import Derived.OwnWalkIn
import Derived.TacticsInMore
import Derived.LoopNIn
import Derived.LoopIn
import Derived.Test.YtanemojiaahbgaaGreatDoorSf10
import Derived.Deep.DeepMust
import Derived.Test.YtanemojiaahbgaaGreatDoorSf24
import Derived.Test.YtanemojiaahbgaaGreatDoorProg
import Derived.Test.YtanemojiaahbgaaGreatDoorSf12
import Derived.Shelf.SlSortCmp.KitK
import Derived.Sort.WalkB2
import Derived.Sort.WalkB12
import Derived.Deep.LoopGhost
import Derived.WalkKit
import Derived.Lib.Hide
import Derived.Shelf.SlSortCmp.QuietGrown
section
/- Whether a value has but what its kind has, with what a yes says. (Printed by gen/few5.py.) -/
set_option linter.unusedSimpArgs false
set_option linter.unusedVariables false
namespace Go.Proofs.YtanemojiaahbgaaGreatDoor
open Go.RowKit Go.OpenShut

/-- What a yes says: only lists have values, in the value and in its members. -/
def OwnM (t : JV) : Prop := (t.k ≠ 5 → t.l = []) ∧ ∀ p ∈ t.m, p.2.k ≠ 5 → p.2.l = []
def OwnRet7 (w : World) (t : JV) (e : Ending) (w' : World) : Prop := ∃ b : Bool, e = .returned (.bool b) ∧ Hid (b = true → OwnM t) ∧ Below w.heap.size w w'
theorem own_leaf {k : Int} {nl : Nat} {b5 : Bool} (h5 : (k != 5) = b5) (h : b5 = true → ¬ 0 < nl) : k ≠ 5 → nl = 0 := fun hk => by
  have h2 : (k != 5) = true := by simpa using hk
  have := h (h5.symm.trans h2)
  omega
set_option maxRecDepth 100000 in
set_option maxHeartbeats 2000000 in
theorem own7m_any (N : Nat) : ∀ (t : JV) (r : RV) (w : World), SizeOf.sizeOf t ≤ N → TreeOf w w.heap.size t r → t.Ok →
    Calls Tryz.prog 39 #[r.val] w (OwnRet7 w t) := by
  induction N with
  | zero => intro t r w hN; cases t; simp at hN
  | succ N ih =>
    intro t r w hN ht ot
    cases ht with
    | @mk _ l m rs rms hl el hcl hm em hcn hcm =>
    obtain ⟨k, n, s, pl, nl, cl, pm, nm, cm⟩ := r
    cases ot with
    | mk _ _ _ bl bm okl oks okm =>
    dsimp only [RV.val] at *
    have eL := rd_nlen hl
    have eM := rd_nlen hm
    have HT : Hid (∀ (i : Nat) t q, l[i]? = some t → rs[i]? = some q → ∀ W, Below w.heap.size w W → Calls Tryz.prog 39 #[q.val] W (OwnRet7 W t)) :=
      fun i t q h1 h2 W hb => ih t q W (by have := JV.lt_l (k := k) (n := n) (s := s) (m := m) h1; omega) ((hcl i t q h1 h2).under hb hb.size) (okl i t h1)
    have HS : Hid (∀ (i : Nat) p q, m[i]? = some p → rms[i]? = some q → ∀ W, Below w.heap.size w W → Calls Tryz.prog 39 #[q.v.val] W (OwnRet7 W p.2)) :=
      fun i p q h1 h2 W hb => ih p.2 q.v W (by have := JV.lt_m (k := k) (n := n) (s := s) (l := l) h1; omega) ((hcm i p q h1 h2).under hb hb.size) (okm i p h1)
    have HL := Lib.hid hl
    have HM := Lib.hid hm
    have E1 : Hid (l.length = nl ∧ rs.length = nl) := ⟨by omega, by omega⟩
    have HE1 : Hid (l.length = nl) := by unfold Hid; omega
    have E2 : Hid (m.length = nm ∧ rms.length = nm) := ⟨by omega, by omega⟩
    have hnl : nl ≤ 1759218604390 := by omega
    have hnm : nm ≤ 1466015503658 := by omega
    have hA0 : VAt (w.alloc (.cells #[.int .i64 k, .int .i64 n, .string s, .slice pl nl cl, .slice pm nm cm] 31)) w.heap.size ⟨k, n, s, pl, nl, cl, pm, nm, cm⟩ := heap_alloc_at rfl
    have hB0 : Below w.heap.size w (w.alloc (.cells #[.int .i64 k, .int .i64 n, .string s, .slice pl nl cl, .slice pm nm cm] 31)) := (Below.refl _ _).alloc (Nat.le_refl _) _
    clear ih hcl hcn hcm hl hm okl oks okm el em bl bm eL eM hN
    go_enter Tryz.func39, Tryz.ntmps39
    go_upto_region 1 with fail
    obtain ⟨W0, hW0⟩ : ∃ W0, (w.alloc (.cells #[.int .i64 k, .int .i64 n, .string s, .slice pl nl cl, .slice pm nm cm] 31)) = W0 := ⟨_, rfl⟩
    rw [hW0] at hA0 hB0 ⊢
    clear hW0
    have hz := hA0.lt
    have c0 := hA0.cell 0 rfl
    have c3 := hA0.cell 3 rfl
    have c4 := hA0.cell 4 rfl
    dsimp only at c0 c3 c4
    have HA := Lib.hid hA0
    clear hA0
    go_cut [24] from 5 to 24 (fun v wr => ∃ b : Bool, v = .bool b ∧ Hid (b = false → k ≠ 5 → nl = 0) ∧ wr = W0)
    case first =>
      cases h5 : (k != 5) <;> cases h6 : (k != 6) <;> by_cases p1 : 0 < nl <;> by_cases p2 : 0 < nm
      all_goals go_wp2_with fail
      all_goals (go_meet; refine ⟨_, rfl, fun hb => ?_, rfl⟩; first | (cases hb; done) | exact own_leaf h5 (fun h => by first | (cases h; done) | exact p1))
    case rest =>
    obtain ⟨b, rfl, HB5, rfl⟩ := hcut
    cases b with
    | true =>
      go_wp2_with fail
      go_ret
      exact ⟨false, rfl, (fun h => by cases h), hB0⟩
    | false =>
      go_wp2_with fail
      go_loopw [3] (fun i wr => ∃ j : Nat, j ≤ nl ∧ i = .int .i64 j ∧ Below wc.heap.size wc wr) (fun i _ => nl - (intOf i).toNat)
      case atStart => exact ⟨0, Nat.zero_le _, rfl, Below.refl _ _⟩
      case round =>
        obtain ⟨j, hj, rfl, hbr⟩ := hrel
        have c3 := bcs hbr hz c3
        have hbw : Below w.heap.size w wr := hB0.trans (hbr.mono hB0.size)
        by_cases hlt : j < nl
        · obtain ⟨tx, htx⟩ : ∃ x, l[j]? = some x := ⟨_, List.getElem?_eq_getElem (by have := E1.out; omega)⟩
          obtain ⟨x, hx⟩ : ∃ x, rs[j]? = some x := ⟨_, List.getElem?_eq_getElem (by have := E1.out; omega)⟩
          obtain ⟨b1, o1, rfl, hb1, hc1⟩ := rd_at' (HL.out.below hbw (Nat.le_refl _)) hx
          have f0 := hc1 0 _ rfl
          have f1 := hc1 1 _ rfl
          have f2 := hc1 2 _ rfl
          have f3 := hc1 3 _ rfl
          have f4 := hc1 4 _ rfl
          rw [Nat.add_zero] at f0
          have HC := Lib.hid (HT.out j tx x htx hx)
          have hk0 : (0 : Int) ≤ (j : Int) := Int.natCast_nonneg _
          have hk1 : (j : Int) < (nl : Int) := by omega
          have hzr : wc.heap.size ≤ wr.heap.size := hbr.size
          have HBR := Lib.hid hbr
          clear hc1 htx hx hbr
          go_wp2_with (go_at_call 39; refine (HC.out _ hbw).mono ?_; rintro e w1 ⟨b, rfl, hM, hb1'⟩; cases b)
          · go_ret
            exact ⟨false, rfl, (fun h => by cases h), hbw.trans (hb1'.mono hbw.size)⟩
          · go_roundw
            case rel => exact ⟨j + 1, by omega, by go_num, HBR.out.trans (hb1'.mono (by omega))⟩
            case measure => simp [intOf]; omega
        · obtain rfl : j = nl := by omega
          have hz1 : wc.heap.size ≤ wr.heap.size := hbr.size
          have c4 := bcs hbr hz c4
          clear HT HL E1 hbr
          obtain ⟨wo, rfl⟩ : ∃ wo : World, wo = wr := ⟨_, rfl⟩
          go_wp2_with fail
          clear c3
          go_loopw [4] (fun i wq => ∃ j : Nat, j ≤ nm ∧ i = .int .i64 j ∧ Hid (∀ (i : Nat) p, i < j → m[i]? = some p → p.2.k ≠ 5 → p.2.l = []) ∧ Below wo.heap.size wo wq) (fun i _ => nm - (intOf i).toNat)
          case atStart => exact ⟨0, Nat.zero_le _, rfl, (fun i p h => by omega), Below.refl _ _⟩
          case round =>
            obtain ⟨wq, rfl⟩ : ∃ wq : World, wq = wr := ⟨_, rfl⟩
            obtain ⟨j, hj, rfl, HMJ, hbr⟩ := hrel
            have hbw2 : Below w.heap.size w wq := hbw.trans (hbr.mono (by omega))
            have c4 := bcs hbr (by omega) c4
            by_cases hlt : j < nm
            · obtain ⟨tx, htx⟩ : ∃ x, m[j]? = some x := ⟨_, List.getElem?_eq_getElem (by have := E2.out; omega)⟩
              obtain ⟨x, hx⟩ : ∃ x, rms[j]? = some x := ⟨_, List.getElem?_eq_getElem (by have := E2.out; omega)⟩
              obtain ⟨b1, o1, rfl, hb1, hc1⟩ := rd_at' (HM.out.below hbw2 (Nat.le_refl _)) hx
              have f0 := hc1 0 _ rfl
              have f1 := hc1 1 _ rfl
              have f2 := hc1 2 _ rfl
              have f3 := hc1 3 _ rfl
              have f4 := hc1 4 _ rfl
              have f5 := hc1 5 _ rfl
              rw [Nat.add_zero] at f0
              have HC := Lib.hid (HS.out j tx x htx hx)
              have HTX := Lib.hid htx
              have hk0 : (0 : Int) ≤ (j : Int) := Int.natCast_nonneg _
              have hk1 : (j : Int) < (nm : Int) := by omega
              have hzr : wc.heap.size ≤ wq.heap.size := by have := hbr.size; omega
              have hzq : wo.heap.size ≤ wq.heap.size := hbr.size
              have HBR := Lib.hid hbr
              clear hc1 htx hx hbr
              go_wp2_with (go_at_call 39; refine (HC.out _ hbw2).mono ?_; rintro e w1 ⟨b, rfl, hM, hb1'⟩; cases b)
              · go_ret
                exact ⟨false, rfl, (fun h => by cases h), hbw2.trans (hb1'.mono hbw2.size)⟩
              · go_roundw
                case rel =>
                  refine ⟨j + 1, by omega, by go_num, fun i p hi hp => ?_, HBR.out.trans (hb1'.mono (by omega))⟩
                  by_cases hij : i < j
                  · exact HMJ.out i p hij hp
                  · obtain rfl : i = j := by omega
                    obtain rfl : tx = p := Option.some.inj (HTX.out.symm.trans hp)
                    exact (hM.out (by trivial)).1
                case measure => simp [intOf]; omega
            · obtain rfl : j = nm := by omega
              go_wp2_with fail
              go_ret
              refine ⟨true, rfl, fun _ => ⟨fun hk => ?_, fun p hp => ?_⟩, hbw2⟩
              · have h1 := HB5.out (by trivial) hk
                have h2 := HE1.out
                exact List.eq_nil_of_length_eq_zero (by show l.length = 0; omega)
              · obtain ⟨i, hi⟩ := List.getElem?_of_mem hp
                have hlt := (List.getElem?_eq_some_iff.1 hi).1
                exact HMJ.out i p (by have := E2.out; have h3 : i < m.length := hlt; omega) hi
end Go.Proofs.YtanemojiaahbgaaGreatDoor
end

section
/- cardboxref18.Few and Same, walked. -/
set_option linter.unusedSimpArgs false
set_option linter.unusedVariables false
namespace Go.Proofs.YtanemojiaahbgaaGreatDoor
open Go.RowKit Go.OpenShut

/-- Some truth; if it says yes, the box has few objects and entries. -/
def FewBx (w : World) (b : BoxD) (e : Ending) (w' : World) : Prop := ∃ y : Bool, e = .returned (.bool y) ∧ Hid (y = true → b.objs.length ≤ 100 ∧ b.trail.length ≤ 300) ∧ Below w.heap.size w w'

set_option maxRecDepth 100000 in
set_option maxHeartbeats 2000000 in
theorem few18_any (b : BoxD) (r : RB) (w : World) (hb : BoxOf w w.heap.size b r) (ob : b.Ok) :
    Calls Tryz.prog 49 #[r.val] w (FewBx w b) := by
  have ho := hb.objs
  have hnt := hb.trail.nlen
  obtain ⟨po, no, co, pt, nt, ct, sq, fl, kp⟩ := r
  dsimp only [RB.val] at *
  obtain ⟨rms, hrd, hms⟩ := ho
  have hn := rd_nlen hrd
  have hlm := hms.len
  have hzo := ob.objs
  have hA0 : BoxAt (w.alloc (.cells #[.slice po no co, .slice pt nt ct, .int .i64 sq, .int .i64 fl, .int .i64 kp] 25)) w.heap.size ⟨po, no, co, pt, nt, ct, sq, fl, kp⟩ := heap_alloc_at rfl
  have hB0 : Below w.heap.size w (w.alloc (.cells #[.slice po no co, .slice pt nt ct, .int .i64 sq, .int .i64 fl, .int .i64 kp] 25)) := (Below.refl _ _).alloc (Nat.le_refl _) _
  have HRD := Lib.hid hrd
  have HMS := Lib.hid hms
  have HOK := Lib.hid ob.each
  have HN : Hid (b.objs.length = no ∧ rms.length = no ∧ b.trail.length = nt) := ⟨by omega, by omega, hnt⟩
  clear hb hrd hms hn hlm hzo ob hnt
  go_enter Tryz.func49, Tryz.ntmps49
  go_upto_region 1 with fail
  obtain ⟨W0, hW0⟩ : ∃ W0, (w.alloc (.cells #[.slice po no co, .slice pt nt ct, .int .i64 sq, .int .i64 fl, .int .i64 kp] 25)) = W0 := ⟨_, rfl⟩
  rw [hW0] at hA0 hB0 ⊢
  clear hW0
  have c0 := hA0.cell 0 rfl
  have c1 := hA0.cell 1 rfl
  dsimp only at c0 c1
  have HB := Lib.hid hB0
  have HA := Lib.hid hA0
  have hz := hA0.lt
  clear hA0 hB0
  by_cases h1 : 100 < no
  · have d1 : decide ((100 : Int) < (no : Int)) = true := by simp; omega
    clear h1
    go_wp2_with fail
    go_ret
    exact ⟨false, rfl, (fun h => by cases h), HB.out⟩
  have d1 : decide ((100 : Int) < (no : Int)) = false := by simp; omega
  by_cases h2 : 300 < nt
  · have d2 : decide ((300 : Int) < (nt : Int)) = true := by simp; omega
    clear h2
    go_wp2_with fail
    go_ret
    exact ⟨false, rfl, (fun h => by cases h), HB.out⟩
  have d2 : decide ((300 : Int) < (nt : Int)) = false := by simp; omega
  have hno : no ≤ 100 := by omega
  have HNT : Hid (nt ≤ 300) := by unfold Hid; omega
  clear h1 h2
  go_wp2_with fail
  go_loopw [3] (fun i wr => ∃ k : Nat, k ≤ no ∧ i = .int .i64 k ∧ Below W0.heap.size W0 wr) (fun i _ => no - (intOf i).toNat)
  case atStart => exact ⟨0, Nat.zero_le _, rfl, Below.refl _ _⟩
  case round =>
    obtain ⟨k, hk, rfl, hbr⟩ := hrel
    have c0 := bcs hbr hz c0
    have hbw : Below w.heap.size w wr := HB.out.trans (hbr.mono HB.out.size)
    by_cases hlt : k < no
    · obtain ⟨x, hx⟩ : ∃ x, rms[k]? = some x := ⟨_, List.getElem?_eq_getElem (by have := HN.out; omega)⟩
      obtain ⟨p, hp⟩ : ∃ x, b.objs[k]? = some x := ⟨_, List.getElem?_eq_getElem (by have := HN.out; omega)⟩
      have HC := Lib.hid (few7_any p.2 x.v 200 wr ((HMS.out.val _ p x hp hx).under hbw hbw.size) (HOK.out p (List.mem_of_getElem? hp)).2)
      obtain ⟨b1, o1, rfl, hb1, hc1⟩ := rd_at' (HRD.out.below hbw (Nat.le_refl _)) hx
      have f0 := hc1 0 _ rfl
      have f1 := hc1 1 _ rfl
      have f2 := hc1 2 _ rfl
      have f3 := hc1 3 _ rfl
      have f4 := hc1 4 _ rfl
      have f5 := hc1 5 _ rfl
      have hk0 : (0 : Int) ≤ (k : Int) := Int.natCast_nonneg _
      have hk1 : (k : Int) < (no : Int) := by omega
      have HBR := Lib.hid hbr
      clear hx hp hc1 hbr hbw
      go_wp2_with (go_at_call 11; refine HC.out.mono ?_; rintro e w2 ⟨y, rfl, _, hb2⟩; cases y)
      · go_ret
        exact ⟨false, rfl, (fun h => by cases h), HB.out.trans ((HBR.out.trans (hb2.mono HBR.out.size)).mono HB.out.size)⟩
      · go_roundw
        case rel => exact ⟨k + 1, by omega, by go_num, HBR.out.trans (hb2.mono HBR.out.size)⟩
        case measure => simp [intOf]; omega
    · obtain rfl : k = no := by omega
      go_wp2_with fail
      go_ret
      exact ⟨true, rfl, (fun _ => by have := HN.out; have := HNT.out; omega), hbw⟩

theorem BoxD.ext' {a b : BoxD} (h1 : a.objs = b.objs) (h2 : a.trail = b.trail) (h3 : a.seq = b.seq) (h4 : a.floor = b.floor) (h5 : a.keep = b.keep) : a = b := by
  cases a; cases b; simp_all

end Go.Proofs.YtanemojiaahbgaaGreatDoor
end

section
/- Few values; few objects: with what a yes says. (Printed by gen/few5.py.) -/
set_option linter.unusedSimpArgs false
set_option linter.unusedVariables false
namespace Go.Proofs.YtanemojiaahbgaaGreatDoor
open Go.RowKit Go.OpenShut

def SomeM (t : JV) (n : Nat) (w : World) (e : Ending) (w' : World) : Prop := ∃ b : Bool, e = .returned (.bool b) ∧ Hid (b = true → n ≤ 10000 ∧ OwnM t) ∧ Below w.heap.size w w'
def FewBm (w : World) (b : BoxD) (e : Ending) (w' : World) : Prop := ∃ y : Bool, e = .returned (.bool y) ∧ Hid (y = true → (b.objs.length ≤ 100 ∧ b.trail.length ≤ 300) ∧ ∀ p ∈ b.objs, p.2.m.length ≤ 10000) ∧ Below w.heap.size w w'
set_option maxRecDepth 100000 in
set_option maxHeartbeats 2000000 in
theorem few7m_any (t : JV) (r : RV) (most : Int) (w : World) (ht : TreeOf w w.heap.size t r) (ot : t.Ok) :
    Calls Tryz.prog 11 #[r.val, .int .i64 most] w (SomeM t r.nm w) := by
  have HT := Lib.hid ht
  have hA0 : VAt (w.alloc (.cells #[.int .i64 r.k, .int .i64 r.n, .string r.s, .slice r.pl r.nl r.cl, .slice r.pm r.nm r.cm] 31)) w.heap.size r := heap_alloc_at rfl
  have hB0 : Below w.heap.size w (w.alloc (.cells #[.int .i64 r.k, .int .i64 r.n, .string r.s, .slice r.pl r.nl r.cl, .slice r.pm r.nm r.cm] 31)) := (Below.refl _ _).alloc (Nat.le_refl _) _
  clear ht
  go_enter Tryz.func11, Tryz.ntmps11
  go_upto_region 1 with fail
  obtain ⟨W0, hW0⟩ : ∃ W0, (w.alloc (.cells #[.int .i64 r.k, .int .i64 r.n, .string r.s, .slice r.pl r.nl r.cl, .slice r.pm r.nm r.cm] 31)) = W0 := ⟨_, rfl⟩
  rw [hW0] at hA0 hB0 ⊢
  clear hW0
  have hz := hA0.lt
  have c0 := hA0.cell 0 rfl
  have c1 := hA0.cell 1 rfl
  have c2 := hA0.cell 2 rfl
  have c3 := hA0.cell 3 rfl
  have c4 := hA0.cell 4 rfl
  clear hA0
  have HD : Hid (∀ W, Below w.heap.size w W → Calls Tryz.prog 37 #[r.val, .int .i64 100] W (SomeF r.nm W)) := fun W hb => deep7_any t r W (HT.out.under hb hb.size) ot
  have HN : Hid (∀ W, Below w.heap.size w W → Calls Tryz.prog 38 #[r.val, .int .i64 most] W (SomeI W)) := fun W hb => count7_any _ t r most W (Nat.le_refl _) (HT.out.under hb hb.size) ot
  have HO : Hid (∀ W, Below w.heap.size w W → Calls Tryz.prog 39 #[r.val] W (OwnRet7 W t)) := fun W hb => own7m_any _ t r W (Nat.le_refl _) (HT.out.under hb hb.size) ot
  go_wp2_with (first
    | (go_at_call 37; refine (HD.out _ hB0).mono ?_; rintro e w1 ⟨b1, rfl, hbL, hbA⟩; (have hb1 := hB0.trans (hbA.mono hB0.size)); (have d0 := bcs hbA hz c0); (have d1 := bcs hbA hz c1); (have d2 := bcs hbA hz c2); (have d3 := bcs hbA hz c3); (have d4 := bcs hbA hz c4); cases b1)
    | (go_at_call 38; refine (HN.out _ hb1).mono ?_; rintro e w2 ⟨d, rfl, hbB⟩; (have hb2 := hb1.trans (hbB.mono hb1.size)); (have hz1 := Nat.lt_of_lt_of_le hz hbA.size); (have e0 := bcs hbB hz1 d0); (have e1 := bcs hbB hz1 d1); (have e2 := bcs hbB hz1 d2); (have e3 := bcs hbB hz1 d3); (have e4 := bcs hbB hz1 d4); (by_cases hd : d ≤ most))
    | (go_at_call 39; refine (HO.out _ hb2).mono ?_; rintro e w3 ⟨b3, rfl, hM, hbC⟩; (have hb3 := hb2.trans (hbC.mono hb2.size))))
  all_goals go_ret
  all_goals first | (refine ⟨b3, rfl, ?_, hb3⟩; have h := hbL.out; exact fun hb => ⟨h trivial, hM.out hb⟩) | exact ⟨false, rfl, (fun h => by cases h), hb2⟩ | exact ⟨false, rfl, (fun h => by cases h), hb1⟩

set_option maxRecDepth 100000 in
set_option maxHeartbeats 2000000 in
theorem few18m_any (b : BoxD) (r : RB) (w : World) (hb : BoxOf w w.heap.size b r) (ob : b.Ok) :
    Calls Tryz.prog 49 #[r.val] w (FewBm w b) := by
  have ho := hb.objs
  have hnt := hb.trail.nlen
  obtain ⟨po, no, co, pt, nt, ct, sq, fl, kp⟩ := r
  dsimp only [RB.val] at *
  obtain ⟨rms, hrd, hms⟩ := ho
  have hn := rd_nlen hrd
  have hlm := hms.len
  have hzo := ob.objs
  have hA0 : BoxAt (w.alloc (.cells #[.slice po no co, .slice pt nt ct, .int .i64 sq, .int .i64 fl, .int .i64 kp] 25)) w.heap.size ⟨po, no, co, pt, nt, ct, sq, fl, kp⟩ := heap_alloc_at rfl
  have hB0 : Below w.heap.size w (w.alloc (.cells #[.slice po no co, .slice pt nt ct, .int .i64 sq, .int .i64 fl, .int .i64 kp] 25)) := (Below.refl _ _).alloc (Nat.le_refl _) _
  have HRD := Lib.hid hrd
  have HMS := Lib.hid hms
  have HOK := Lib.hid ob.each
  have HN : Hid (b.objs.length = no ∧ rms.length = no ∧ b.trail.length = nt) := ⟨by omega, by omega, hnt⟩
  clear hb hrd hms hn hlm hzo ob hnt
  go_enter Tryz.func49, Tryz.ntmps49
  go_upto_region 1 with fail
  obtain ⟨W0, hW0⟩ : ∃ W0, (w.alloc (.cells #[.slice po no co, .slice pt nt ct, .int .i64 sq, .int .i64 fl, .int .i64 kp] 25)) = W0 := ⟨_, rfl⟩
  rw [hW0] at hA0 hB0 ⊢
  clear hW0
  have c0 := hA0.cell 0 rfl
  have c1 := hA0.cell 1 rfl
  dsimp only at c0 c1
  have HB := Lib.hid hB0
  have HA := Lib.hid hA0
  have hz := hA0.lt
  clear hA0 hB0
  by_cases h1 : 100 < no
  · have d1 : decide ((100 : Int) < (no : Int)) = true := by simp; omega
    clear h1
    go_wp2_with fail
    go_ret
    exact ⟨false, rfl, (fun h => by cases h), HB.out⟩
  have d1 : decide ((100 : Int) < (no : Int)) = false := by simp; omega
  by_cases h2 : 300 < nt
  · have d2 : decide ((300 : Int) < (nt : Int)) = true := by simp; omega
    clear h2
    go_wp2_with fail
    go_ret
    exact ⟨false, rfl, (fun h => by cases h), HB.out⟩
  have d2 : decide ((300 : Int) < (nt : Int)) = false := by simp; omega
  have hno : no ≤ 100 := by omega
  have HNT : Hid (nt ≤ 300) := by unfold Hid; omega
  clear h1 h2
  go_wp2_with fail
  go_loopw [3] (fun i wr => ∃ k : Nat, k ≤ no ∧ i = .int .i64 k ∧ Hid (∀ (i : Nat) p, i < k → b.objs[i]? = some p → p.2.m.length ≤ 10000) ∧ Below W0.heap.size W0 wr) (fun i _ => no - (intOf i).toNat)
  case atStart => exact ⟨0, Nat.zero_le _, rfl, (fun i p h => by omega), Below.refl _ _⟩
  case round =>
    obtain ⟨k, hk, rfl, HMJ, hbr⟩ := hrel
    have c0 := bcs hbr hz c0
    have hbw : Below w.heap.size w wr := HB.out.trans (hbr.mono HB.out.size)
    by_cases hlt : k < no
    · obtain ⟨x, hx⟩ : ∃ x, rms[k]? = some x := ⟨_, List.getElem?_eq_getElem (by have := HN.out; omega)⟩
      obtain ⟨p, hp⟩ : ∃ x, b.objs[k]? = some x := ⟨_, List.getElem?_eq_getElem (by have := HN.out; omega)⟩
      have HC := Lib.hid (few7_any p.2 x.v 200 wr ((HMS.out.val _ p x hp hx).under hbw hbw.size) (HOK.out p (List.mem_of_getElem? hp)).2)
      have hvm : p.2.m.length = x.v.nm := by
        obtain ⟨rms2, hm1, hm2, _⟩ := (HMS.out.val _ p x hp hx).mems
        rw [hm2.len]; exact (rd_nlen hm1).symm
      have HVM := Lib.hid (And.intro hvm hp)
      clear hvm
      obtain ⟨b1, o1, rfl, hb1, hc1⟩ := rd_at' (HRD.out.below hbw (Nat.le_refl _)) hx
      have f0 := hc1 0 _ rfl
      have f1 := hc1 1 _ rfl
      have f2 := hc1 2 _ rfl
      have f3 := hc1 3 _ rfl
      have f4 := hc1 4 _ rfl
      have f5 := hc1 5 _ rfl
      have hk0 : (0 : Int) ≤ (k : Int) := Int.natCast_nonneg _
      have hk1 : (k : Int) < (no : Int) := by omega
      have HBR := Lib.hid hbr
      clear hx hp hc1 hbr hbw
      go_wp2_with (go_at_call 11; refine HC.out.mono ?_; rintro e w2 ⟨y, rfl, hyM, hb2⟩; cases y)
      · go_ret
        exact ⟨false, rfl, (fun h => by cases h), HB.out.trans ((HBR.out.trans (hb2.mono HBR.out.size)).mono HB.out.size)⟩
      · go_roundw
        case rel =>
          refine ⟨k + 1, by omega, by go_num, fun i q hi hq => ?_, HBR.out.trans (hb2.mono HBR.out.size)⟩
          by_cases hij : i < k
          · exact HMJ.out i q hij hq
          · obtain rfl : i = k := by omega
            obtain rfl : p = q := Option.some.inj (HVM.out.2.symm.trans hq)
            have h1 := hyM.out (by trivial)
            have h2 := HVM.out.1
            omega
        case measure => simp [intOf]; omega
    · obtain rfl : k = no := by omega
      go_wp2_with fail
      go_ret
      refine ⟨true, rfl, fun _ => ⟨by have := HN.out; have := HNT.out; omega, fun p hp => ?_⟩, hbw⟩
      obtain ⟨i, hi⟩ := List.getElem?_of_mem hp
      have hlt := (List.getElem?_eq_some_iff.1 hi).1
      exact HMJ.out i p (by have := HN.out; have h3 : i < b.objs.length := hlt; omega) hi

end Go.Proofs.YtanemojiaahbgaaGreatDoor
end

section
/- How many bytes a value's texts have, within bounds: some number is told. (Printed by gen/size.py.) -/
set_option linter.unusedSimpArgs false
set_option linter.unusedVariables false
namespace Go.Proofs.YtanemojiaahbgaaGreatDoor
open Go.RowKit Go.OpenShut

set_option maxRecDepth 100000 in
set_option maxHeartbeats 2000000 in
theorem size26_any (N : Nat) : ∀ (t : JV) (r : RV) (most : Int) (w : World), SizeOf.sizeOf t ≤ N → TreeOf w w.heap.size t r → t.Ok →
    Calls Tryz.prog 21 #[r.val, .int .i64 most] w (SomeI w) := by
  induction N with
  | zero => intro t r most w hN; cases t; simp at hN
  | succ N ih =>
    intro t r most w hN ht ot
    cases ht with
    | @mk _ l m rs rms hl el hcl hm em hcn hcm =>
    obtain ⟨k, n, s, pl, nl, cl, pm, nm, cm⟩ := r
    cases ot with
    | mk _ _ _ bl bm okl oks okm =>
    dsimp only [RV.val] at *
    have eL := rd_nlen hl
    have eM := rd_nlen hm
    have HT : Hid (∀ (i : Nat) t q, l[i]? = some t → rs[i]? = some q → ∀ W, Below w.heap.size w W → ∀ most, Calls Tryz.prog 21 #[q.val, .int .i64 most] W (SomeI W)) :=
      fun i t q h1 h2 W hb most => ih t q most W (by have := JV.lt_l (k := k) (n := n) (s := s) (m := m) h1; omega) ((hcl i t q h1 h2).under hb hb.size) (okl i t h1)
    have HS : Hid (∀ (i : Nat) p q, m[i]? = some p → rms[i]? = some q → ∀ W, Below w.heap.size w W → ∀ most, Calls Tryz.prog 21 #[q.v.val, .int .i64 most] W (SomeI W)) :=
      fun i p q h1 h2 W hb most => ih p.2 q.v most W (by have := JV.lt_m (k := k) (n := n) (s := s) (l := l) h1; omega) ((hcm i p q h1 h2).under hb hb.size) (okm i p h1)
    have HL := Lib.hid hl
    have HM := Lib.hid hm
    have E1 : Hid (l.length = nl ∧ rs.length = nl) := ⟨by omega, by omega⟩
    have E2 : Hid (m.length = nm ∧ rms.length = nm) := ⟨by omega, by omega⟩
    have hnl : nl ≤ 1759218604390 := by omega
    have hnm : nm ≤ 1466015503658 := by omega
    have hA0 : VAt (w.alloc (.cells #[.int .i64 k, .int .i64 n, .string s, .slice pl nl cl, .slice pm nm cm] 31)) w.heap.size ⟨k, n, s, pl, nl, cl, pm, nm, cm⟩ := heap_alloc_at rfl
    have hB0 : Below w.heap.size w (w.alloc (.cells #[.int .i64 k, .int .i64 n, .string s, .slice pl nl cl, .slice pm nm cm] 31)) := (Below.refl _ _).alloc (Nat.le_refl _) _
    clear ih hcl hcn hcm hl hm okl oks okm el em bl bm eL eM hN
    go_enter Tryz.func21, Tryz.ntmps21
    go_upto_region 1 with fail
    obtain ⟨W0, hW0⟩ : ∃ W0, (w.alloc (.cells #[.int .i64 k, .int .i64 n, .string s, .slice pl nl cl, .slice pm nm cm] 31)) = W0 := ⟨_, rfl⟩
    rw [hW0] at hA0 hB0 ⊢
    clear hW0
    have hz := hA0.lt
    have c2 := hA0.cell 2 rfl
    have c3 := hA0.cell 3 rfl
    have c4 := hA0.cell 4 rfl
    dsimp only at c2 c3 c4
    clear hA0
    go_wp2_with fail
    clear c2
    go_loopw [5, 6] (fun a i wr => ∃ (g : Int) (j : Nat), j ≤ nl ∧ a = .int .i64 g ∧ i = .int .i64 j ∧ Below W0.heap.size W0 wr) (fun _ i _ => nl - (intOf i).toNat)
    case atStart => exact ⟨_, 0, Nat.zero_le _, rfl, rfl, Below.refl _ _⟩
    case round =>
      obtain ⟨g, j, hj, rfl, rfl, hbr⟩ := hrel
      have c3 := bcs hbr hz c3
      have hbw : Below w.heap.size w wr := hB0.trans (hbr.mono hB0.size)
      obtain ⟨wo, rfl⟩ : ∃ wo : World, wo = wr := ⟨_, rfl⟩
      by_cases hgo : j < nl ∧ g ≤ most
      · obtain ⟨hlt, hgm⟩ := hgo
        obtain ⟨tx, htx⟩ : ∃ x, l[j]? = some x := ⟨_, List.getElem?_eq_getElem (by have := E1.out; omega)⟩
        obtain ⟨x, hx⟩ : ∃ x, rs[j]? = some x := ⟨_, List.getElem?_eq_getElem (by have := E1.out; omega)⟩
        obtain ⟨b1, o1, rfl, hb1, hc1⟩ := rd_at' (HL.out.below hbw (Nat.le_refl _)) hx
        have f0 := hc1 0 _ rfl
        have f1 := hc1 1 _ rfl
        have f2 := hc1 2 _ rfl
        have f3 := hc1 3 _ rfl
        have f4 := hc1 4 _ rfl
        rw [Nat.add_zero] at f0
        have HC := Lib.hid (HT.out j tx x htx hx)
        have hk0 : (0 : Int) ≤ (j : Int) := Int.natCast_nonneg _
        have hk1 : (j : Int) < (nl : Int) := by omega
        have hzr : W0.heap.size ≤ wo.heap.size := hbr.size
        have HBR := Lib.hid hbr
        clear hc1 htx hx hbr
        go_wp2_with (go_at_call 21; refine (HC.out _ hbw _).mono ?_; rintro e w1 ⟨d, rfl, hb1'⟩)
        go_roundw
        case rel => exact ⟨_, j + 1, by omega, rfl, by go_num, HBR.out.trans (hb1'.mono (by omega))⟩
        case measure => simp [intOf]; omega
      · have hz1 : W0.heap.size ≤ wo.heap.size := hbr.size
        have c4 := bcs hbr hz c4
        clear HT HL E1 hbr
        by_cases p1 : j < nl
        all_goals (try (have hgm : ¬ g ≤ most := fun h => hgo ⟨p1, h⟩))
        all_goals clear hgo
        all_goals go_wp2_with fail
        all_goals clear c3
        all_goals (
        go_loopw [5, 7] (fun a i wq => ∃ (g : Int) (j : Nat), j ≤ nm ∧ a = .int .i64 g ∧ i = .int .i64 j ∧ Below wo.heap.size wo wq) (fun _ i _ => nm - (intOf i).toNat)
        case atStart => exact ⟨g, 0, Nat.zero_le _, rfl, rfl, Below.refl _ _⟩
        case round =>
          obtain ⟨g, j, hj, rfl, rfl, hbr⟩ := hrel
          have hbw2 : Below w.heap.size w wr := hbw.trans (hbr.mono (by omega))
          have c4 := bcs hbr (by omega) c4
          obtain ⟨w3, rfl⟩ : ∃ w3 : World, w3 = wr := ⟨_, rfl⟩
          by_cases hgo : j < nm ∧ g ≤ most
          · obtain ⟨hlt, hgm⟩ := hgo
            obtain ⟨tx, htx⟩ : ∃ x, m[j]? = some x := ⟨_, List.getElem?_eq_getElem (by have := E2.out; omega)⟩
            obtain ⟨x, hx⟩ : ∃ x, rms[j]? = some x := ⟨_, List.getElem?_eq_getElem (by have := E2.out; omega)⟩
            obtain ⟨b1, o1, rfl, hb1, hc1⟩ := rd_at' (HM.out.below hbw2 (Nat.le_refl _)) hx
            have f0 := hc1 0 _ rfl
            have f1 := hc1 1 _ rfl
            have f2 := hc1 2 _ rfl
            have f3 := hc1 3 _ rfl
            have f4 := hc1 4 _ rfl
            have f5 := hc1 5 _ rfl
            rw [Nat.add_zero] at f0
            have HC := Lib.hid (HS.out j tx x htx hx)
            have hk0 : (0 : Int) ≤ (j : Int) := Int.natCast_nonneg _
            have hk1 : (j : Int) < (nm : Int) := by omega
            have HBR := Lib.hid hbr
            have hzq : wo.heap.size ≤ w3.heap.size := hbr.size
            clear hc1 htx hx hbr
            go_wp2_with (go_at_call 21; refine (HC.out _ hbw2 _).mono ?_; rintro e w1 ⟨d, rfl, hb1'⟩)
            all_goals (
              go_roundw
              case rel => first | exact ⟨_, j + 1, by omega, rfl, by go_num, HBR.out.trans (hb1'.mono (by omega))⟩ | exact ⟨_, j + 1, by omega, rfl, by go_num, HBR.out⟩
              case measure => simp [intOf]; omega)
          · by_cases p1 : j < nm
            all_goals (try (have hgm : ¬ g ≤ most := fun h => hgo ⟨p1, h⟩))
            all_goals clear hgo
            all_goals go_wp2_with fail
            all_goals go_ret
            all_goals exact ⟨_, rfl, hbw2⟩)
end Go.Proofs.YtanemojiaahbgaaGreatDoor
end

section
/- Texts in their order. -/
set_option linter.unusedSimpArgs false
set_option linter.unusedVariables false
namespace Go.Proofs.YtanemojiaahbgaaGreatDoor
open Go.RowKit Go.OpenShut

theorem less_cmpB : ∀ a b : List UInt8, Op.bytesLess a b = decide (Lib.compareBytes a b < 0)
  | [], [] => by simp [Op.bytesLess, Lib.compareBytes]
  | [], _ :: _ => by simp [Op.bytesLess, Lib.compareBytes]
  | _ :: _, [] => by simp [Op.bytesLess, Lib.compareBytes]
  | x :: a, y :: b => by
    have ih := less_cmpB a b
    unfold Op.bytesLess Lib.compareBytes
    by_cases h1 : x < y
    · simp [h1]
    · by_cases h2 : y < x
      · have : x ≠ y := fun e => by subst e; exact h1 h2
        simp [h1, h2, this]
      · have : x = y := by
          rw [UInt8.lt_iff_toNat_lt] at h1 h2
          exact UInt8.toNat_inj.1 (by omega)
        subst this
        simp [h1, ih]
theorem less_cmp (a b : ByteArray) : Op.bytesLess a.toList b.toList = decide (cmpN a b < 0) := by
  rw [ByteArray.toList_eq, ByteArray.toList_eq]
  exact less_cmpB _ _
/-- The first k objects rise. -/
def RisingTo (os : List (ByteArray × JV)) (k : Nat) : Prop := ∀ (i : Nat) p q, i + 1 < k → os[i]? = some p → os[i + 1]? = some q → cmpN p.1 q.1 < 0
theorem RisingTo.all {os : List (ByteArray × JV)} (h : RisingTo os os.length) : Rising os := by
  intro i j p q hij hi hj
  induction j generalizing q with
  | zero => omega
  | succ j ih =>
    have hl := (List.getElem?_eq_some_iff.1 hj).1
    by_cases e : i = j
    · subst e
      exact h i p q hl hi hj
    · obtain ⟨m, hm⟩ : ∃ m, os[j]? = some m := ⟨_, List.getElem?_eq_getElem (by omega)⟩
      exact cmpN_lt_trans (ih m (by omega) hm) (by have := h j m q hl hm hj; have := cmpN_neg m.1 q.1; omega)
theorem Rising.no {os : List (ByteArray × JV)} {i : Nat} {p q : ByteArray × JV} (hp : os[i]? = some p) (hq : os[i + 1]? = some q) (h : ¬ cmpN p.1 q.1 < 0) : ¬ Rising os := fun hr => h (hr i (i + 1) p q (by omega) hp hq)
end Go.Proofs.YtanemojiaahbgaaGreatDoor
end

section
/- slices.Backward at a slice of entries and at a slice of pointers: what it hands to a loop's body, from the last element to the first. -/
set_option linter.unusedSimpArgs false
set_option linter.unusedVariables false
namespace Go.Proofs.YtanemojiaahbgaaGreatDoor
open Go.RowKit Go.Shelf

attribute [local go_sem] Oper.semAt_some

/-- What a round keeps: all below n₀, and the block in which the slice is held. -/
def Kq (n₀ Bs : Nat) (W W' : World) : Prop := Below n₀ W W' ∧ W'.heap[Bs]? = W.heap[Bs]?
theorem Kq.refl (n₀ Bs : Nat) (W : World) : Kq n₀ Bs W W := ⟨Below.refl _ _, rfl⟩
theorem Kq.trans {n₀ Bs : Nat} {A B C : World} (h : Kq n₀ Bs A B) (k : Kq n₀ Bs B C) : Kq n₀ Bs A C := ⟨h.1.trans k.1, k.2.trans h.2⟩
theorem Kq.book {n₀ Bs : Nat} {w : World} (hn : n₀ ≤ w.heap.size) (hB : Bs < w.heap.size) (W : World) (l : Nat) (o o' : Obj) (hl : w.heap.size ≤ l) (h : W.heap[l]? = some o) (h1 : o.isCells = false) (h2 : o.isWalk = false) : Kq n₀ Bs W (W.putObj l o') :=
  ⟨belowK_b hn W l o o' hl h h1 h2, World.putObj_heap_other (by omega)⟩
theorem Kq.cell {n₀ Bs : Nat} {W W' : World} (h : Kq n₀ Bs W W') {v : Value} (hc : W.cell? ⟨Bs, 0, none⟩ = some v) : W'.cell? ⟨Bs, 0, none⟩ = some v := (World.cell?_of_block (w := W) h.2).trans hc

/-- What has come when k rounds are over. -/
def backTo {α : Type} (xs : List α) (k : Nat) : List (Nat × α) := (xs.zipIdx.reverse.take k).map fun p => (p.2, p.1)
theorem backTo_succ {α : Type} (xs : List α) (k j : Nat) (x : α) (hk : k < xs.length) (hj : xs.length - 1 - k = j) (hx : xs[j]? = some x) : backTo xs (k + 1) = backTo xs k ++ [(j, x)] := by
  subst hj
  unfold backTo
  rw [List.take_add_one, List.getElem?_reverse (by simpa using hk), List.length_zipIdx, List.getElem?_zipIdx, hx]
  simp
theorem backTo_length {α : Type} (xs : List α) (k : Nat) (hk : k ≤ xs.length) : (backTo xs k).length = k := by simp [backTo]; omega
theorem backTo_all {α : Type} (xs : List α) : (backTo xs xs.length).map (·.2) = xs.reverse := by
  unfold backTo
  rw [List.take_of_length_le (by simp), List.map_map, List.map_reverse]
  congr 1
  apply List.ext_getElem
  · simp
  · intro i h1 h2
    simp

/-- An entry that may be. -/
abbrev OkE := { e : En // e.ok }
def encO (x : OkE) : List Value := encE x.1

/-- A pointer to the head of a block. -/
def encPt (b : Nat) : List Value := [.pointer (some ⟨b, 0, none⟩)]
theorem codecPt : Codec encPt 1 := ⟨fun _ => rfl, fun x u hu => by
  simp only [encPt, List.mem_cons, List.not_mem_nil, or_false] at hu
  rcases hu with rfl; rfl, by decide⟩

variable {p : Nat → Prop}
def encPs (x : {b : Nat // p b}) : List Value := encPt x.1

end Go.Proofs.YtanemojiaahbgaaGreatDoor
end

section
set_option linter.unusedSimpArgs false
set_option linter.unusedVariables false
namespace Go.Proofs.YtanemojiaahbgaaGreatDoor
open Go.RowKit Go.OpenShut

def lastF (l : List En) (s : List UInt8) : Option Value := l.foldl (fun a e => if s = e.id.data.toList then some (.int .i64 e.what) else a) none
theorem lastF_take {l : List En} {j : Nat} {y : En} (hy : l[j]? = some y) : lastF (l.take (j + 1)) = fun s => if s = y.id.data.toList then some (.int .i64 y.what) else lastF (l.take j) s := by
  funext s
  rw [List.take_add_one, hy]
  simp [lastF]
theorem data_inj (a b : ByteArray) : a.data.toList = b.data.toList ↔ a = b := by
  obtain ⟨⟨x⟩⟩ := a
  obtain ⟨⟨y⟩⟩ := b
  simp
theorem lastF_W (l : List En) (id : ByteArray) : (lastF l id.data.toList).getD (.int .i64 0) = .int .i64 (lastW l id) := by
  suffices ∀ (l : List En) (o : Option Value) (a : Int), o.getD (.int .i64 0) = .int .i64 a →
    (l.foldl (fun a e => if id.data.toList = e.id.data.toList then some (.int .i64 e.what) else a) o).getD (.int .i64 0) = .int .i64 (l.foldl (fun a e => if e.id = id then e.what else a) a) from this l none 0 rfl
  intro l
  induction l with
  | nil => intro o a h; exact h
  | cons e l ih =>
    intro o a h
    simp only [List.foldl_cons]
    refine ih _ _ ?_
    by_cases h1 : e.id = id
    · rw [if_pos h1, if_pos (by rw [h1])]; rfl
    · rw [if_neg h1, if_neg (fun e1 => h1 ((data_inj _ _).1 e1).symm)]; exact h
theorem zeroInt (w : World) : (zeroValue 3).run Tryz.prog w = .ok (.int .i64 0) w := by kernel_rfl

end Go.Proofs.YtanemojiaahbgaaGreatDoor
end

section
/- What became of ids: the state of the loop, and what its steps do to it. -/
set_option linter.unusedSimpArgs false
set_option linter.unusedVariables false
namespace Go.Proofs.YtanemojiaahbgaaGreatDoor
open Go.RowKit Go.Shelf

/-! ### The plain answer -/
def updP (e : En) (p : Pa) : Pa := if p.id = e.id then { p with was := e.what != 1 } else p
def newP (e : En) : Pa := ⟨e.id, e.what != 1, e.what != 3, e.seq⟩
def stepP (sq : Int) (acc : List Pa) (e : En) : List Pa :=
  if e.seq ≤ sq then acc
  else if acc.any (fun p => decide (p.id = e.id)) then acc.map (updP e)
  else acc ++ [newP e]

def EnAt (W : World) (b : Nat) (e : En) : Prop := W.heap[b]? = some (.cells #[.int .i64 e.seq, .string e.id, .int .i64 e.what] 121 (0, 0))
theorem obj_ne {W : World} {i j : Nat} {o o' : Obj} (h : W.heap[i]? = some o) (h' : W.heap[j]? = some o') (hne : o ≠ o') : some i ≠ some j := by
  intro e
  simp only [Option.some.injEq] at e
  subst e
  rw [h] at h'
  exact hne (by simpa using h')
theorem EnAt.cell {W : World} {b : Nat} {e : En} (h : EnAt W b e) (j : Nat) {u : Value} (hu : (encE e)[j]? = some u) : W.cell? ⟨b, j, none⟩ = some u := by
  unfold EnAt at h
  rw [← hu]
  simp [World.cell?, h, encE]
theorem grownBy_setCell1 (W : World) (b o : Nat) (v : Value) : W.grownBy (W.setCell ⟨b, o, none⟩ v) (some b) :=
  ⟨rfl, rfl, rfl, (KeepsWalks.setCell W _ v).size, fun k _ hk => Below.heap_setCell _ _ _ k (fun e => hk (by rw [e]))⟩

theorem MapF.obj {w : World} {P : Program} {k : TypeId} {b n : Nat} {f : List UInt8 → Option Value} (h : MapF w P k b n f) : ∃ es c, w.heap[b]? = some (.map es c) := by
  obtain ⟨E, ⟨es, clock, h1, h2⟩, he⟩ := h
  exact ⟨_, _, h1⟩
theorem Own.blk {α : Type} {enc : α → List Value} {sz : Nat} {w : World} {base : Nat} {e : TypeId} {v : Value} {xs : List α} (h : Own w base e enc sz v xs) : ∀ r, v.ownBlock = some r → base ≤ r ∧ ∃ cur, w.heap[r]? = some (.cells cur e (0, 0)) := by
  intro r hr
  rcases h.2 with ⟨rfl, _⟩ | ⟨g, cap, cur, rfl, hb, hgb, _⟩
  · simp [Value.ownBlock] at hr
  · obtain rfl : g = r := by simpa [Value.ownBlock] using hr
    exact ⟨hb, cur, hgb⟩

section
variable {base mb n t6 : Nat} {Q : List (Nat × Pa)} {f : List UInt8 → Option Value} {v : Value} {R : List Nat} {W : World}
end

section
variable {F : Fence} {nF : Nat} {P : Program} (w : World) {ops : Array Oper} {rest : List Oper} {o : Oper} {a : Act} {Q : Exit → Act → World → Prop}
theorem wpListIn_look_F (hg : o.guard = none) (m x : Operand) (t : TypeId) (hop : o.op = Op.lookup t m x false) (k e : TypeId) (hk : P.underlying k = some .string) (ht : P.underlying t = some (.map k e)) {z : Value} (hz : (zeroValue e).run P w = .ok z w)
    (b n : Nat) (f : List UInt8 → Option Value) (hm : a.eval m = .map (some b)) (hown : MapF w P k b n f) (s : ByteArray) (hx : a.eval x = .string s) (hs : s.size ≤ maxLen) {v : Value} (hv : (f s.data.toList).getD z = v)
    (hK : wpListIn F nF P ops Q rest (a.put o.dst v) w) : wpListIn F nF P ops Q (o :: rest) a w := by
  refine wpListIn_plain hg fun K' hK' => ?_
  have hrun := hown.look hk ht hz hs
  rw [hv] at hrun
  unfold Oper.wpIn
  refine ⟨by simp [Oper.about, hop], ?_⟩
  rw [Oper.semAt_plain F _ _ (by rw [hop]; intro c hc'; cases hc')]
  simp [execOp, hop, hm, hx, hrun, Result.andThen]
  exact hK' _ _ hK
theorem wpListIn_store_F (hg : o.guard = none) (m x v : Operand) (t : TypeId) (hop : o.op = Op.mapUpdate t m x v) (k e : TypeId) (hk : P.underlying k = some .string) (ht : P.underlying t = some (.map k e)) 
    (b n : Nat) (f : List UInt8 → Option Value) (hm : a.eval m = .map (some b)) (hown : MapF w P k b n f) (hn : n < maxLen) (s : ByteArray) (hx : a.eval x = .string s) (hs : s.size ≤ maxLen) (val : Value) (hv : a.eval v = val)
    (hK : ∀ w', MapF w' P k b (n + 1) (fun u => if u = s.data.toList then some val else f u) → w.grownBy w' (some b) → wpListIn F nF P ops Q rest (a.put o.dst undef) w') : wpListIn F nF P ops Q (o :: rest) a w := by
  refine wpListIn_plain hg fun K' hK' => ?_
  obtain ⟨w', hrun, h1, h2⟩ := hown.store hk ht hn hs val
  unfold Oper.wpIn
  refine ⟨by simp [Oper.about, hop], ?_⟩
  rw [Oper.semAt_plain F _ _ (by rw [hop]; intro c hc'; cases hc')]
  simp [execOp, hop, hm, hx, hv, hrun, Result.andThen]
  exact hK' _ _ (hK w' h1 h2)
end
end Go.Proofs.YtanemojiaahbgaaGreatDoor
end

section
/- The exchange of two ranges, as the library's stable sort has it, at elements of 4 cells. -/
set_option linter.unusedSimpArgs false
set_option linter.unusedVariables false
namespace Go.Proofs.YtanemojiaahbgaaGreatDoor
open Go.Shelf Go.RowKit Go.Lib Go.Sort
namespace SP
variable {P : Program} {α : Type} [Inhabited α]

end SP
end Go.Proofs.YtanemojiaahbgaaGreatDoor
end

section
/- The rotation, as the library's stable sort has it. -/
set_option linter.unusedSimpArgs false
set_option linter.unusedVariables false
namespace Go.Proofs.YtanemojiaahbgaaGreatDoor
open Go.Shelf Go.RowKit Go.Lib Go.Sort
namespace SP
variable {P : Program} {α : Type} [Inhabited α]

def RotPost (enc : α → List Value) (k : Nat) (w0 : World) (blk off : Nat) (d : Array α) (a m b : Nat) (e : Ending) (w' : World) : Prop :=
  e = .returned (.tuple #[]) ∧ ∃ d' : Array α, SWK enc k w0 blk off d' w' ∧ PermIn a b d d' ∧ ∀ t, d'[t]! = rotG d a m b t

end SP
end Go.Proofs.YtanemojiaahbgaaGreatDoor
end

section
/- The symmetric merge where the left is one element: it is laid into the right. -/
set_option linter.unusedSimpArgs false
set_option linter.unusedVariables false
namespace Go.Proofs.YtanemojiaahbgaaGreatDoor
open Go.Shelf Go.RowKit Go.Lib Go.Sort
namespace SP
variable {P : Program} {α : Type} [Inhabited α]

def SymPost (enc : α → List Value) (k : Nat) (w0 : World) (blk off : Nat) (lt : α → α → Bool) (d : Array α) (a b : Nat) (e : Ending) (w' : World) : Prop :=
  e = .returned (.tuple #[]) ∧ ∃ d' : Array α, SWK enc k w0 blk off d' w' ∧ PermIn a b d d' ∧ SortedIn lt a b d'

end SP
end Go.Proofs.YtanemojiaahbgaaGreatDoor
end
