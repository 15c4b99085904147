import Derived.Test.YthgkgjcnmahacaaSc29
import Derived.Test.YthgkgjcnmahacaaSc15
import Derived.Test.YthgkgjcnmahacaaSc21
import Derived.Test.YthgkgjcnmahacaaSc26
import Derived.Test.YthgkgjcnmahacaaSc25
import Derived.Test.YthgkgjcnmahacaaSc10
import Derived.Test.YthgkgjcnmahacaaSc34
import Derived.Test.YthgkgjcnmahacaaSc24
import Derived.Test.YthgkgjcnmahacaaSc27
section
/- Changes compared; are acts few? is a text in a list? walked. -/
set_option linter.unusedSimpArgs false
set_option linter.unusedVariables false
namespace Go.Proofs.Ythgkgjcnmahacaa
open Go.RowKit Go.OpenShut

/-- Two changes in blocks. -/
structure TwoC (w W : World) (r q : RC) : Prop where
  a : ChAt W w.heap.size r
  b : ChAt W (w.heap.size + 1) q
  below : Below w.heap.size w W
theorem TwoC.go {w W W' : World} {r q : RC} (h : TwoC w W r q) (hb : Below W.heap.size W W') : TwoC w W' r q := ⟨h.a.under hb h.a.lt, h.b.under hb h.b.lt, h.below.trans (hb.mono h.below.size)⟩

set_option maxRecDepth 100000 in
set_option maxHeartbeats 2000000 in
theorem same19_yes (d : ChD) (r q : RC) (w : World) (hr : ChgOf w w.heap.size d r) (hq : ChgOf w w.heap.size d q) :
    Calls Try.prog 44 #[r.val, q.val] w fun e w' => e = .returned (.bool true) ∧ Below w.heap.size w w' := by
  have hS : TwoC w ((w.alloc r.obj).alloc q.obj) r q := ⟨heap_alloc_lt (by simp) (heap_alloc_at rfl), heap_alloc_at (by simp), below2 w _ _⟩
  have hto : r.toN = q.toN := hr.toN.symm.trans hq.toN
  have hmo : r.more = q.more := hr.more.symm.trans hq.more
  have HP1 : Hid (∀ W, Below w.heap.size w W → Calls Try.prog 49 #[.slice r.pa r.na r.ca, .slice q.pa q.na q.ca] W fun e w' => e = .returned (.bool true) ∧ Below W.heap.size W w') := fun W hb => by
    have h := sameParts_any W w.heap.size _ _ _ _ (hr.made.below hb (Nat.le_refl _)) (hq.made.below hb (Nat.le_refl _))
    exact h.mono fun e w' ⟨h1, n, h2⟩ => by subst h2; rw [decide_eq_true rfl] at h1; exact ⟨h1, bdn (Below.refl _ _) n⟩
  have HP2 : Hid (∀ W, Below w.heap.size w W → Calls Try.prog 49 #[.slice r.pb r.nb r.cb, .slice q.pb q.nb q.cb] W fun e w' => e = .returned (.bool true) ∧ Below W.heap.size W w') := fun W hb => by
    have h := sameParts_any W w.heap.size _ _ _ _ (hr.chgd.below hb (Nat.le_refl _)) (hq.chgd.below hb (Nat.le_refl _))
    exact h.mono fun e w' ⟨h1, n, h2⟩ => by subst h2; rw [decide_eq_true rfl] at h1; exact ⟨h1, bdn (Below.refl _ _) n⟩
  have HP3 : Hid (∀ W, Below w.heap.size w W → Calls Try.prog 49 #[.slice r.pc r.nc r.cc, .slice q.pc q.nc q.cc] W fun e w' => e = .returned (.bool true) ∧ Below W.heap.size W w') := fun W hb => by
    have h := sameParts_any W w.heap.size _ _ _ _ (hr.gone.below hb (Nat.le_refl _)) (hq.gone.below hb (Nat.le_refl _))
    exact h.mono fun e w' ⟨h1, n, h2⟩ => by subst h2; rw [decide_eq_true rfl] at h1; exact ⟨h1, bdn (Below.refl _ _) n⟩
  obtain ⟨pa, na, ca, pb, nb, cb, pc, nc, cc, tt, mm⟩ := r
  obtain ⟨pa', na', ca', pb', nb', cb', pc', nc', cc', tt', mm'⟩ := q
  dsimp only at *
  subst hto hmo
  clear hr hq
  go_enter Try.func44, Try.ntmps44
  go_upto_region 1 with fail
  obtain ⟨W0, hW0⟩ : ∃ W0, ((w.alloc (RC.obj ⟨pa, na, ca, pb, nb, cb, pc, nc, cc, tt, mm⟩)).alloc (RC.obj ⟨pa', na', ca', pb', nb', cb', pc', nc', cc', tt, mm⟩)) = W0 := ⟨_, rfl⟩
  rw [hW0] at hS
  dsimp only [RC.obj] at hW0
  rw [hW0]
  clear hW0
  have HS := Lib.hid hS
  clear hS
  have q1 : (tt == tt) = true := by simp
  have q2 : (mm == mm) = true := by simp
  have c0 := HS.out.a.cell 0 rfl
  have c1 := HS.out.a.cell 1 rfl
  have c2 := HS.out.a.cell 2 rfl
  have c3 := HS.out.a.cell 3 rfl
  have c4 := HS.out.a.cell 4 rfl
  have z0 := HS.out.b.cell 0 rfl
  have z1 := HS.out.b.cell 1 rfl
  have z2 := HS.out.b.cell 2 rfl
  have z3 := HS.out.b.cell 3 rfl
  have z4 := HS.out.b.cell 4 rfl
  dsimp only at c0 c1 c2 c3 c4 z0 z1 z2 z3 z4
  go_wp2_with fail
  refine (HP1.out _ HS.out.below).mono ?_
  rintro e w1 ⟨rfl, hb1⟩
  have HS1 := Lib.hid (HS.out.go hb1)
  clear hb1 c0 c1 c2 c3 c4 z0 z1 z2 z3 z4
  have c0 := HS1.out.a.cell 0 rfl
  have c1 := HS1.out.a.cell 1 rfl
  have c2 := HS1.out.a.cell 2 rfl
  have c3 := HS1.out.a.cell 3 rfl
  have c4 := HS1.out.a.cell 4 rfl
  have z0 := HS1.out.b.cell 0 rfl
  have z1 := HS1.out.b.cell 1 rfl
  have z2 := HS1.out.b.cell 2 rfl
  have z3 := HS1.out.b.cell 3 rfl
  have z4 := HS1.out.b.cell 4 rfl
  dsimp only at c0 c1 c2 c3 c4 z0 z1 z2 z3 z4
  go_wp2_with fail
  refine (HP2.out _ HS1.out.below).mono ?_
  rintro e w2 ⟨rfl, hb2⟩
  have HS2 := Lib.hid (HS1.out.go hb2)
  clear hb2 c0 c1 c2 c3 c4 z0 z1 z2 z3 z4
  have c0 := HS2.out.a.cell 0 rfl
  have c1 := HS2.out.a.cell 1 rfl
  have c2 := HS2.out.a.cell 2 rfl
  have c3 := HS2.out.a.cell 3 rfl
  have c4 := HS2.out.a.cell 4 rfl
  have z0 := HS2.out.b.cell 0 rfl
  have z1 := HS2.out.b.cell 1 rfl
  have z2 := HS2.out.b.cell 2 rfl
  have z3 := HS2.out.b.cell 3 rfl
  have z4 := HS2.out.b.cell 4 rfl
  dsimp only at c0 c1 c2 c3 c4 z0 z1 z2 z3 z4
  go_wp2_with fail
  refine (HP3.out _ HS2.out.below).mono ?_
  rintro e w3 ⟨rfl, hb3⟩
  have HS3 := Lib.hid (HS2.out.go hb3)
  clear hb3 c0 c1 c2 c3 c4 z0 z1 z2 z3 z4
  go_wp2_with fail
  go_ret
  exact ⟨rfl, HS3.out.below⟩

/-- Is a text in a list? -/
def hasB (l : List ByteArray) (s : ByteArray) : Bool := l.any (fun x => decide (x = s))
theorem hasB_iff {l : List ByteArray} {s : ByteArray} : hasB l s = true ↔ s ∈ l := by
  unfold hasB
  rw [List.any_eq_true]
  constructor
  · rintro ⟨x, hx, h⟩
    rw [← of_decide_eq_true h]
    exact hx
  · exact fun h => ⟨s, h, by simp⟩
set_option maxRecDepth 100000 in
set_option maxHeartbeats 2000000 in
theorem has_any (w : World) (B : Nat) (v : Value) (l : List ByteArray) (s : ByteArray) (hv : Rd w B encS 1 v l) (hlen : l.length ≤ 4398046510976) :
    Calls Try.prog 48 #[v, .string s] w fun e w' => e = .returned (.bool (hasB l s)) ∧ ∃ n, w' = w.drewN n := by
  obtain ⟨p, c, rfl, hlc, hcm⟩ := rd_len hv
  have HV := Lib.hid hv
  obtain ⟨n, hn⟩ : ∃ n, l.length = n := ⟨_, rfl⟩
  have HN := Lib.hid hn
  have hno : n ≤ 4398046510976 := by omega
  rw [hn]
  clear hv hlen hlc hcm hn
  go_enter Try.func48, Try.ntmps48
  go_wp2_with fail
  go_loopw [5] (fun i wr => ∃ k : Nat, k ≤ n ∧ i = .int .i64 k ∧ Hid (∀ (j : Nat) x, j < k → l[j]? = some x → x ≠ s) ∧ ∃ m, wr = w.drewN m) (fun i _ => n - (intOf i).toNat)
  case atStart => exact ⟨0, Nat.zero_le _, rfl, fun j x h => by omega, 0, rfl⟩
  case round =>
    obtain ⟨k, hk, rfl, hne, nr, rfl⟩ := hrel
    by_cases hlt : k < n
    · obtain ⟨x, hx⟩ : ∃ x, l[k]? = some x := ⟨_, List.getElem?_eq_getElem (by have := HN.out; omega)⟩
      obtain ⟨b1, o1, rfl, hb1, hc1⟩ := rd_at HV.out hx
      have f0 := hc1 0 _ rfl
      rw [Nat.add_zero, Nat.mul_one] at f0
      have hk0 : (0 : Int) ≤ (k : Int) := Int.natCast_nonneg _
      have hk1 : (k : Int) < (n : Int) := by omega
      have hq := str_beq x s
      by_cases hxy : x = s
      · have e2 : (x.toList == s.toList) = true := by rw [hq]; simpa using hxy
        have HM : Hid (hasB l s = true) := by unfold Hid; rw [hasB_iff, ← hxy]; exact List.mem_of_getElem? hx
        clear hx hc1 hq hxy
        go_wp2_with fail
        go_ret
        exact ⟨by rw [HM.out]; rfl, _, rfl⟩
      · have e2 : (x.toList == s.toList) = false := by rw [hq]; simpa using hxy
        have HNO : Hid (∀ (j : Nat) y, j < k + 1 → l[j]? = some y → y ≠ s) := fun j y h hy => by
          by_cases e : j = k
          · subst e
            rw [hx] at hy
            cases hy
            exact hxy
          · exact hne.out j y (by omega) hy
        clear hx hc1 hq hxy
        go_wp2_with fail
        go_roundw
        case rel => exact ⟨k + 1, by omega, by go_num, HNO, _, rfl⟩
        case measure => simp [intOf]; omega
    · obtain rfl : k = n := by omega
      have HM : Hid (hasB l s = false) := by
        unfold Hid
        rw [Bool.eq_false_iff]
        intro h
        obtain ⟨j, hj⟩ := List.getElem?_of_mem (hasB_iff.1 h)
        have := (List.getElem?_eq_some_iff.1 hj).1
        exact hne.out j s (by have := HN.out; omega) hj rfl
      go_wp2_with fail
      go_ret
      exact ⟨by rw [HM.out]; rfl, _, rfl⟩

def Few19 (w : World) (b : BoxD) (n : Nat) (e : Ending) (w' : World) : Prop := ∃ y : Bool, e = .returned (.bool y) ∧ Hid (y = true → n ≤ 60 ∧ b.objs.length ≤ 100 ∧ b.trail.length ≤ 300 ∧ RightBx b) ∧ Below w.heap.size w w'
set_option maxRecDepth 100000 in
set_option maxHeartbeats 4000000 in
theorem few19_any (b : BoxD) (r : RB) (ops : List (RO × JV)) (v : Value) (w : World) (hb : BoxOf w w.heap.size b r) (ob : b.Ok) (hv : Rd w w.heap.size encOp 7 v (ops.map (·.1))) (ht : ∀ o ∈ ops, TreeOf w w.heap.size o.2 o.1.v ∧ OpOk o.1 o.2) :
    Calls Try.prog 41 #[r.val, v] w (Few19 w b ops.length) := by
  obtain ⟨p, cc, rfl, hlc, hcm⟩ := rd_len hv
  have hA0 : BoxAt (w.alloc r.obj) w.heap.size r := heap_alloc_at rfl
  have hB0 : Below w.heap.size w (w.alloc r.obj) := (Below.refl _ _).alloc (Nat.le_refl _) _
  have HBX := Lib.hid hb
  have HOB := Lib.hid ob
  have HV := Lib.hid hv
  have HT := Lib.hid ht
  obtain ⟨n, hn⟩ : ∃ n, (ops.map (·.1)).length = n := ⟨_, rfl⟩
  have HN : Hid (ops.length = n) := by unfold Hid; rw [← hn, List.length_map]
  rw [hn]
  clear hb ob hv ht hlc hcm hn
  go_enter Try.func41, Try.ntmps41
  go_upto_region 1 with fail
  obtain ⟨W0, hW0⟩ : ∃ W0, w.alloc r.obj = W0 := ⟨_, rfl⟩
  rw [hW0] at hA0 hB0
  dsimp only [RB.obj] at hW0
  rw [hW0]
  clear hW0
  have HA := Lib.hid hA0
  have HB := Lib.hid hB0
  clear hA0 hB0
  by_cases h60 : 60 < n
  · have q1 : decide ((60 : Int) < (n : Int)) = true := by simp; omega
    clear h60
    go_wp2_with fail
    go_ret
    exact ⟨false, rfl, fun h => by simp at h, HB.out⟩
  · have q1 : decide ((60 : Int) < (n : Int)) = false := by simp; omega
    have h60' : n ≤ 60 := by omega
    clear h60
    have c0 := HA.out.cell 0 rfl
    have c1 := HA.out.cell 1 rfl
    have c2 := HA.out.cell 2 rfl
    have c3 := HA.out.cell 3 rfl
    have c4 := HA.out.cell 4 rfl
    go_wp2_with fail
    refine (few18_any b r W0 (HBX.out.under HB.out HB.out.size) HOB.out).mono ?_
    rintro e w1 ⟨y, rfl, HF, hb1⟩
    have HA1 := Lib.hid (HA.out.under hb1 HA.out.lt)
    have HB1 := Lib.hid (HB.out.trans (hb1.mono HB.out.size))
    clear hb1 c0 c1 c2 c3 c4 HA HB
    cases y with
    | false =>
      go_wp2_with fail
      go_ret
      exact ⟨false, rfl, fun h => by simp at h, HB1.out⟩
    | true =>
    have HF1 := Lib.hid (HF.out rfl)
    clear HF
    have c0 := HA1.out.cell 0 rfl
    have c1 := HA1.out.cell 1 rfl
    have c2 := HA1.out.cell 2 rfl
    have c3 := HA1.out.cell 3 rfl
    have c4 := HA1.out.cell 4 rfl
    go_wp2_with fail
    refine (rightS_any b r w1 (HBX.out.under HB1.out HB1.out.size) HOB.out).mono ?_
    rintro e w2 ⟨y, rfl, hright, hb2⟩
    have HB2 := Lib.hid (HB1.out.trans (hb2.mono HB1.out.size))
    have HRT := Lib.hid hright
    clear hb2 c0 c1 c2 c3 c4 HA1 HB1 hright
    cases y with
    | false =>
      go_wp2_with fail
      go_ret
      exact ⟨false, rfl, fun h => by simp at h, HB2.out⟩
    | true =>
    have HR1 := Lib.hid (HRT.out.1 rfl)
    clear HRT
    go_wp2_with fail
    go_loopw [5] (fun i wr => ∃ k : Nat, k ≤ n ∧ i = .int .i64 k ∧ Hid (Below w.heap.size w wr)) (fun i _ => n - (intOf i).toNat)
    case atStart => exact ⟨0, Nat.zero_le _, rfl, HB2.out⟩
    case round =>
      obtain ⟨j, hj, rfl, hbr⟩ := hrel
      by_cases hlt : j < n
      · obtain ⟨o, hx⟩ : ∃ x, ops[j]? = some x := ⟨_, List.getElem?_eq_getElem (by have := HN.out; omega)⟩
        have hx1 : (ops.map (·.1))[j]? = some o.1 := by rw [List.getElem?_map, hx]; rfl
        obtain ⟨b1, o1, rfl, hb1, hc1⟩ := rd_at' (HV.out.below hbr.out (Nat.le_refl _)) hx1
        have HTO := HT.out o (List.mem_of_getElem? hx)
        have HQ := Lib.hid (few7_any o.2 o.1.v 200 wr (HTO.1.under hbr.out hbr.out.size) HTO.2.2)
        obtain ⟨o, t⟩ := o
        dsimp only at hc1 HQ
        have f0 := hc1 0 _ rfl
        have f1 := hc1 1 _ rfl
        have f2 := hc1 2 _ rfl
        have f3 := hc1 3 _ rfl
        have f4 := hc1 4 _ rfl
        have f5 := hc1 5 _ rfl
        have f6 := hc1 6 _ rfl
        rw [Nat.add_zero] at f0
        have hk0 : (0 : Int) ≤ (j : Int) := Int.natCast_nonneg _
        have hk1 : (j : Int) < (n : Int) := by omega
        clear hx hx1 hc1 HTO
        go_wp2_with fail
        refine HQ.out.mono ?_
        rintro e w3 ⟨y, rfl, hy3, hb3⟩
        have HB3 := Lib.hid (hbr.out.trans (hb3.mono hbr.out.size))
        clear hb3 hy3 f0 f1 f2 f3 f4 f5 f6
        cases y with
        | false =>
          go_wp2_with fail
          go_ret
          exact ⟨false, rfl, fun h => by simp at h, HB3.out⟩
        | true =>
          go_wp2_with fail
          go_roundw
          case rel => exact ⟨j + 1, by omega, by go_num, HB3.out⟩
          case measure => simp [intOf]; omega
      · obtain rfl : j = n := by omega
        go_wp2_with fail
        go_ret
        refine ⟨true, rfl, fun _ => ?_, hbr.out⟩
        exact ⟨by have := HN.out; omega, HF1.out.1, HF1.out.2, HR1.out⟩
end Go.Proofs.Ythgkgjcnmahacaa
end

section
/- The law's example of changes: true. -/
set_option linter.unusedSimpArgs false
set_option linter.unusedVariables false
namespace Go.Proofs.Ythgkgjcnmahacaa
open Go.RowKit Go.OpenShut

theorem KB.setBx {W W' : World} (h : KB W.heap.size W W') (g : Nat) (q : RB) (hg : W.heap.size ≤ g) : KB W.heap.size W (((((W'.setCell ⟨g, 0, none⟩ (.slice q.po q.no q.co)).setCell ⟨g, 1, none⟩ (.slice q.pt q.nt q.ct)).setCell ⟨g, 2, none⟩ (.int .i64 q.sq)).setCell ⟨g, 3, none⟩ (.int .i64 q.fl)).setCell ⟨g, 4, none⟩ (.int .i64 q.kp)) :=
  KB.mk (h.1.grown (grownBy_setB W' g q) h.1.size (fun k e => by simp at e; omega))
theorem kt_setB {W W' : World} (h : KB W.heap.size W W') (g : Nat) (q : RB) (hg : W.heap.size ≤ g) : Below W.heap.size W (((((W'.setCell ⟨g, 0, none⟩ (.slice q.po q.no q.co)).setCell ⟨g, 1, none⟩ (.slice q.pt q.nt q.ct)).setCell ⟨g, 2, none⟩ (.int .i64 q.sq)).setCell ⟨g, 3, none⟩ (.int .i64 q.fl)).setCell ⟨g, 4, none⟩ (.int .i64 q.kp)) ∧ ∀ b o, b < W.heap.size → World.cell? (((((W'.setCell ⟨g, 0, none⟩ (.slice q.po q.no q.co)).setCell ⟨g, 1, none⟩ (.slice q.pt q.nt q.ct)).setCell ⟨g, 2, none⟩ (.int .i64 q.sq)).setCell ⟨g, 3, none⟩ (.int .i64 q.fl)).setCell ⟨g, 4, none⟩ (.int .i64 q.kp)) ⟨b, o, none⟩ = W.cell? ⟨b, o, none⟩ := h.setBx g q hg
theorem kt_alloc2 {W W' : World} (h : KB W.heap.size W W') (x y : Obj) : Below W.heap.size W ((W'.alloc x).alloc y) ∧ ∀ b o, b < W.heap.size → World.cell? ((W'.alloc x).alloc y) ⟨b, o, none⟩ = W.cell? ⟨b, o, none⟩ := h.step (((Below.refl _ _).alloc (Nat.le_refl _) x).alloc (by simp) y)
theorem kt_daa (W : World) (x y : Obj) : Below W.heap.size W ((W.alloc x).alloc y).drew ∧ ∀ b o, b < W.heap.size → World.cell? ((W.alloc x).alloc y).drew ⟨b, o, none⟩ = W.cell? ⟨b, o, none⟩ := (KB.mk (((Below.refl _ _).alloc (Nat.le_refl _) x).alloc (by simp) y).drew : KB W.heap.size W _)
/-- The example's acts in a block. -/
abbrev awC : Obj := .cells #[.int .i64 1, .string ⟨#[97]⟩, .int .i64 1, .int .i64 0, .string ⟨#[]⟩, .slice none 0 0, .slice none 0 0, .int .i64 1, .string ⟨#[98]⟩, .int .i64 1, .int .i64 0, .string ⟨#[]⟩, .slice none 0 0, .slice none 0 0, .int .i64 1, .string ⟨#[99]⟩, .int .i64 1, .int .i64 0, .string ⟨#[]⟩, .slice none 0 0, .slice none 0 0, .int .i64 2, .string ⟨#[97]⟩, .int .i64 0, .int .i64 0, .string ⟨#[]⟩, .slice none 0 0, .slice none 0 0] 37
def AwOps (W : World) (g : Nat) : Prop := W.heap[g]? = some (.cells #[.int .i64 1, .string ⟨#[97]⟩, .int .i64 1, .int .i64 0, .string ⟨#[]⟩, .slice none 0 0, .slice none 0 0, .int .i64 1, .string ⟨#[98]⟩, .int .i64 1, .int .i64 0, .string ⟨#[]⟩, .slice none 0 0, .slice none 0 0, .int .i64 1, .string ⟨#[99]⟩, .int .i64 1, .int .i64 0, .string ⟨#[]⟩, .slice none 0 0, .slice none 0 0, .int .i64 2, .string ⟨#[97]⟩, .int .i64 0, .int .i64 0, .string ⟨#[]⟩, .slice none 0 0, .slice none 0 0] 37 (0, 0))
theorem AwOps.lt {W : World} {g : Nat} (h : AwOps W g) : g < W.heap.size := (Array.getElem?_eq_some_iff.1 h).1
theorem AwOps.under {W W' : World} {g : Nat} (h : AwOps W g) (hb : Below W.heap.size W W') : AwOps W' g := (hb.block _ h.lt).trans h
theorem AwOps.rd {W : World} {g : Nat} (h : AwOps W g) : Rd W W.heap.size encOp 7 (.slice (some ⟨g, 0, none⟩) 4 4) (awOps.map (·.1)) := by
  refine ⟨some ⟨g, 0, none⟩, 4, rfl, by decide, by decide, by simp, fun a ha _ => ?_⟩
  cases ha
  refine ⟨g, 0, rfl, h.lt, fun i x hx j u hu => ?_⟩
  have hc : ∀ k (v : Value), (#[Value.int .i64 1, .string ⟨#[97]⟩, .int .i64 1, .int .i64 0, .string ⟨#[]⟩, .slice none 0 0, .slice none 0 0, .int .i64 1, .string ⟨#[98]⟩, .int .i64 1, .int .i64 0, .string ⟨#[]⟩, .slice none 0 0, .slice none 0 0, .int .i64 1, .string ⟨#[99]⟩, .int .i64 1, .int .i64 0, .string ⟨#[]⟩, .slice none 0 0, .slice none 0 0, .int .i64 2, .string ⟨#[97]⟩, .int .i64 0, .int .i64 0, .string ⟨#[]⟩, .slice none 0 0, .slice none 0 0] : Array Value)[k]? = some v → W.cell? ⟨g, k, none⟩ = some v := fun k v hv => by
    unfold AwOps at h
    rw [cell_of_row W g k _ _ _ h]
    exact hv
  have hi : i < 4 := by have := (List.getElem?_eq_some_iff.1 hx).1; simpa [awOps] using this
  have hj : j < 7 := by
    have := (List.getElem?_eq_some_iff.1 hu).1
    rw [codecOp.1] at this
    exact this
  have hx2 : x = (awOps.map (·.1))[i]'(by simpa [awOps] using hi) := by
    rw [List.getElem?_eq_getElem (by simpa [awOps] using hi)] at hx
    exact (Option.some.inj hx).symm
  subst hx2
  apply hc
  rw [← hu]
  have hi4 : i = 0 ∨ i = 1 ∨ i = 2 ∨ i = 3 := by omega
  have hj7 : j = 0 ∨ j = 1 ∨ j = 2 ∨ j = 3 ∨ j = 4 ∨ j = 5 ∨ j = 6 := by omega
  rcases hi4 with rfl | rfl | rfl | rfl <;> rcases hj7 with rfl | rfl | rfl | rfl | rfl | rfl | rfl <;> rfl

/-- A box and changes of it in blocks. -/
structure ChS (w W : World) (g : Nat) (b : BoxD) (q : RB) (cs : List (Nat × RC × ChD)) : Prop where
  box : BoxAt W g q
  of : BoxOf W W.heap.size b q
  below : Below w.heap.size w W
  chg : ∀ c ∈ cs, ChAt W c.1 c.2.1 ∧ ChgOf W W.heap.size c.2.2 c.2.1
theorem ChS.go {w W W' : World} {g : Nat} {b : BoxD} {q : RB} {cs : List (Nat × RC × ChD)} (h : ChS w W g b q cs) (hb : Below W.heap.size W W') : ChS w W' g b q cs :=
  ⟨h.box.under hb h.box.lt, h.of.under hb hb.size, h.below.trans (hb.mono h.below.size), fun c hc => ⟨(h.chg c hc).1.under hb (h.chg c hc).1.lt, (h.chg c hc).2.under hb hb.size⟩⟩
theorem ChS.push {w W W' : World} {g : Nat} {b : BoxD} {q : RB} {cs : List (Nat × RC × ChD)} (h : ChS w W g b q cs) (hb : Below W.heap.size W W') {base : Nat} {d : ChD} {r : RC} (hn : NewChg W' base d r) : ChS w (W'.alloc r.obj) g b q ((W'.heap.size, r, d) :: cs) := by
  have hA : Below W'.heap.size W' (W'.alloc r.obj) := (Below.refl _ _).alloc (Nat.le_refl _) _
  have h2 := (h.go hb).go hA
  refine ⟨h2.box, h2.of, h2.below, fun c hc => ?_⟩
  rcases List.mem_cons.1 hc with rfl | hc
  · exact ⟨heap_alloc_at rfl, hn.chg.under hA hA.size⟩
  · exact h2.chg c hc

set_option maxRecDepth 200000 in
set_option maxHeartbeats 8000000 in
theorem awake19_any (w : World) : Calls Try.prog 40 #[] w fun e w' => e = .returned (.bool true) ∧ Below w.heap.size w w' := by
  go_enter Try.func40, Try.ntmps40
  go_upto_region 2 with fail
  have hv0 : VAt (w.alloc (.cells #[.int .i64 1, .int .i64 0, .string ⟨#[]⟩, .slice none 0 0, .slice none 0 0] 25)) w.heap.size nulR := heap_alloc_at rfl
  have hb0 : Below w.heap.size w (w.alloc (.cells #[.int .i64 1, .int .i64 0, .string ⟨#[]⟩, .slice none 0 0, .slice none 0 0] 25)) := (Below.refl _ _).alloc (Nat.le_refl _) _
  obtain ⟨w7, hw7⟩ : ∃ W, (w.alloc (.cells #[.int .i64 1, .int .i64 0, .string ⟨#[]⟩, .slice none 0 0, .slice none 0 0] 25)) = W := ⟨_, rfl⟩
  rw [hw7] at hv0 hb0 ⊢
  clear hw7
  have c0 := hv0.cell 0 rfl
  have c1 := hv0.cell 1 rfl
  have c2 := hv0.cell 2 rfl
  have c3 := hv0.cell 3 rfl
  have c4 := hv0.cell 4 rfl
  have hlt := hv0.lt
  dsimp only [nulR] at c0 c1 c2 c3 c4
  have HB0 := Lib.hid hb0
  clear hv0 hb0
  have HPL : Hid (∀ W g, AwOps W g → Calls Try.prog 47 #[(newR 0 9).val, .slice (some ⟨g, 0, none⟩) 4 4] W (DoesRet W b19)) := fun W g h => by
    have h1 := play_any ⟨[], [], 0, 0, 9⟩ (newR 0 9) awOps _ W 0 0 (newB_of W _ 0 9) good0 h.rd (awOps_ok W _) (by decide) (by decide)
    rw [play19] at h1
    exact h1
  have HC1 : Hid (AwOps (w7.alloc awC).drew w7.heap.size) := heap_alloc_at rfl
  have HC2 : Hid (AwOps ((w7.alloc awC).alloc (.cells #[.slice RB.zero.po RB.zero.no RB.zero.co, .slice RB.zero.pt RB.zero.nt RB.zero.ct, .int .i64 RB.zero.sq, .int .i64 RB.zero.fl, .int .i64 RB.zero.kp] 35)).drew w7.heap.size) := heap_alloc_lt (by simp) (heap_alloc_at rfl)
  have HC3 : Hid (AwOps ((w7.alloc (.cells #[.slice RB.zero.po RB.zero.no RB.zero.co, .slice RB.zero.pt RB.zero.nt RB.zero.ct, .int .i64 RB.zero.sq, .int .i64 RB.zero.fl, .int .i64 RB.zero.kp] 35)).alloc awC).drew (w7.heap.size + 1)) := heap_alloc_at (by simp)
  have HZ1 : Hid (BoxAt (w7.alloc (.cells #[.slice RB.zero.po RB.zero.no RB.zero.co, .slice RB.zero.pt RB.zero.nt RB.zero.ct, .int .i64 RB.zero.sq, .int .i64 RB.zero.fl, .int .i64 RB.zero.kp] 35)).drew w7.heap.size RB.zero) := heap_alloc_at rfl
  have HZ2 : Hid (BoxAt ((w7.alloc awC).alloc (.cells #[.slice RB.zero.po RB.zero.no RB.zero.co, .slice RB.zero.pt RB.zero.nt RB.zero.ct, .int .i64 RB.zero.sq, .int .i64 RB.zero.fl, .int .i64 RB.zero.kp] 35)).drew (w7.heap.size + 1) RB.zero) := heap_alloc_at (by simp)
  have HZ3 : Hid (BoxAt ((w7.alloc (.cells #[.slice RB.zero.po RB.zero.no RB.zero.co, .slice RB.zero.pt RB.zero.nt RB.zero.ct, .int .i64 RB.zero.sq, .int .i64 RB.zero.fl, .int .i64 RB.zero.kp] 35)).alloc awC).drew w7.heap.size RB.zero) := heap_alloc_lt (by simp) (heap_alloc_at rfl)
  dsimp only [RB.zero, awC] at HC1 HC2 HC3 HZ1 HZ2 HZ3
  go_cut [2] from 10 to 19 (fun v wr => ∃ g q, v = .pointer (some ⟨g, 0, none⟩) ∧ Hid (BoxAt wr g q ∧ BoxOf wr wr.heap.size b19 q ∧ Below w7.heap.size w7 wr))
  case first =>
    go_region_held3 (fun w' => Below w7.heap.size w7 w' ∧ ∀ b o, b < w7.heap.size → w'.cell? ⟨b, o, none⟩ = w7.cell? ⟨b, o, none⟩)
      (first | with_reducible exact kt_drew w7 | with_reducible exact kt_same hbk | with_reducible exact kt_alloc hbk _ | with_reducible exact kt_alloc2 hbk _ _ | with_reducible exact kt_da w7 _ | with_reducible exact kt_daa w7 _ _ | (with_reducible refine kt_setB hbk _ _ ?_; first | exact Nat.le_refl _ | (simp; omega) | omega))
      (first
        | (go_at_call 29; refine (new_any 0 9 _).mono ?_; rintro e wN ⟨rfl, hbN⟩; (have hbk := KB.step (W := w7) (by assumption) hbN); (have hsN := hbk.1.size); (first | (have HAN := Lib.hid (HC1.out.under hbN)) | (have HAN := Lib.hid (HC2.out.under hbN)) | (have HAN := Lib.hid (HC3.out.under hbN)) | skip); (first | (have HZN := Lib.hid (HZ1.out.under hbN HZ1.out.lt)) | (have HZN := Lib.hid (HZ2.out.under hbN HZ2.out.lt)) | (have HZN := Lib.hid (HZ3.out.under hbN HZ3.out.lt)) | skip))
        | (go_at_call 47; refine (HPL.out _ _ ?_).mono ?_; (first | exact HAN.out | exact HAN.out.under ((Below.refl _ _).alloc (Nat.le_refl _) _) | exact heap_alloc_at rfl | exact heap_alloc_lt (by simp) (heap_alloc_at rfl) | exact heap_alloc_at (by simp)); rintro e w9 ⟨q9, rfl, hq9, hb9⟩; (have hbk := KB.step (W := w7) (by assumption) hb9); (have HQ9 := Lib.hid hq9); (have hs9 := hbk.1.size); (first | ((have HZ9 := Lib.hid (HZN.out.under hb9 HZN.out.lt)); (have z0 := HZ9.out.cell 0 rfl); (have z1 := HZ9.out.cell 1 rfl); (have z2 := HZ9.out.cell 2 rfl); (have z3 := HZ9.out.cell 3 rfl); (have z4 := HZ9.out.cell 4 rfl); (have y0 := HZ9.out.frozen 0); (have y1 := HZ9.out.frozen 1); (have y2 := HZ9.out.frozen 2); (have y3 := HZ9.out.frozen 3); (have y4 := HZ9.out.frozen 4); dsimp only [RB.zero] at z0 z1 z2 z3 z4) | ((have HZ9 := Lib.hid ((HZN.out.under ((Below.refl _ _).alloc (Nat.le_refl _) (.cells #[.int .i64 1, .string ⟨#[97]⟩, .int .i64 1, .int .i64 0, .string ⟨#[]⟩, .slice none 0 0, .slice none 0 0, .int .i64 1, .string ⟨#[98]⟩, .int .i64 1, .int .i64 0, .string ⟨#[]⟩, .slice none 0 0, .slice none 0 0, .int .i64 1, .string ⟨#[99]⟩, .int .i64 1, .int .i64 0, .string ⟨#[]⟩, .slice none 0 0, .slice none 0 0, .int .i64 2, .string ⟨#[97]⟩, .int .i64 0, .int .i64 0, .string ⟨#[]⟩, .slice none 0 0, .slice none 0 0] 37)) HZN.out.lt).under hb9 (by have := HZN.out.lt; simp; omega))); (have z0 := HZ9.out.cell 0 rfl); (have z1 := HZ9.out.cell 1 rfl); (have z2 := HZ9.out.cell 2 rfl); (have z3 := HZ9.out.cell 3 rfl); (have z4 := HZ9.out.cell 4 rfl); (have y0 := HZ9.out.frozen 0); (have y1 := HZ9.out.frozen 1); (have y2 := HZ9.out.frozen 2); (have y3 := HZ9.out.frozen 3); (have y4 := HZ9.out.frozen 4); dsimp only [RB.zero] at z0 z1 z2 z3 z4) | ((have HZ9 := Lib.hid ((show BoxAt (wN.alloc (.cells #[.slice none 0 0, .slice none 0 0, .int .i64 0, .int .i64 0, .int .i64 0] 35)) wN.heap.size RB.zero from heap_alloc_at rfl).under hb9 (by simp))); (have z0 := HZ9.out.cell 0 rfl); (have z1 := HZ9.out.cell 1 rfl); (have z2 := HZ9.out.cell 2 rfl); (have z3 := HZ9.out.cell 3 rfl); (have z4 := HZ9.out.cell 4 rfl); (have y0 := HZ9.out.frozen 0); (have y1 := HZ9.out.frozen 1); (have y2 := HZ9.out.frozen 2); (have y3 := HZ9.out.frozen 3); (have y4 := HZ9.out.frozen 4); dsimp only [RB.zero] at z0 z1 z2 z3 z4) | ((have HZ9 := Lib.hid ((show BoxAt ((wN.alloc (.cells #[.int .i64 1, .string ⟨#[97]⟩, .int .i64 1, .int .i64 0, .string ⟨#[]⟩, .slice none 0 0, .slice none 0 0, .int .i64 1, .string ⟨#[98]⟩, .int .i64 1, .int .i64 0, .string ⟨#[]⟩, .slice none 0 0, .slice none 0 0, .int .i64 1, .string ⟨#[99]⟩, .int .i64 1, .int .i64 0, .string ⟨#[]⟩, .slice none 0 0, .slice none 0 0, .int .i64 2, .string ⟨#[97]⟩, .int .i64 0, .int .i64 0, .string ⟨#[]⟩, .slice none 0 0, .slice none 0 0] 37)).alloc (.cells #[.slice none 0 0, .slice none 0 0, .int .i64 0, .int .i64 0, .int .i64 0] 35)) (wN.heap.size + 1) RB.zero from heap_alloc_at (by simp)).under hb9 (by rw [World.size_alloc, World.size_alloc]; omega))); (have z0 := HZ9.out.cell 0 rfl); (have z1 := HZ9.out.cell 1 rfl); (have z2 := HZ9.out.cell 2 rfl); (have z3 := HZ9.out.cell 3 rfl); (have z4 := HZ9.out.cell 4 rfl); (have y0 := HZ9.out.frozen 0); (have y1 := HZ9.out.frozen 1); (have y2 := HZ9.out.frozen 2); (have y3 := HZ9.out.frozen 3); (have y4 := HZ9.out.frozen 4); dsimp only [RB.zero] at z0 z1 z2 z3 z4) | ((have HZ9 := Lib.hid ((show BoxAt ((wN.alloc (.cells #[.slice none 0 0, .slice none 0 0, .int .i64 0, .int .i64 0, .int .i64 0] 35)).alloc (.cells #[.int .i64 1, .string ⟨#[97]⟩, .int .i64 1, .int .i64 0, .string ⟨#[]⟩, .slice none 0 0, .slice none 0 0, .int .i64 1, .string ⟨#[98]⟩, .int .i64 1, .int .i64 0, .string ⟨#[]⟩, .slice none 0 0, .slice none 0 0, .int .i64 1, .string ⟨#[99]⟩, .int .i64 1, .int .i64 0, .string ⟨#[]⟩, .slice none 0 0, .slice none 0 0, .int .i64 2, .string ⟨#[97]⟩, .int .i64 0, .int .i64 0, .string ⟨#[]⟩, .slice none 0 0, .slice none 0 0] 37)) wN.heap.size RB.zero from heap_alloc_lt (by simp) (heap_alloc_at rfl)).under hb9 (by rw [World.size_alloc, World.size_alloc]; omega))); (have z0 := HZ9.out.cell 0 rfl); (have z1 := HZ9.out.cell 1 rfl); (have z2 := HZ9.out.cell 2 rfl); (have z3 := HZ9.out.cell 3 rfl); (have z4 := HZ9.out.cell 4 rfl); (have y0 := HZ9.out.frozen 0); (have y1 := HZ9.out.frozen 1); (have y2 := HZ9.out.frozen 2); (have y3 := HZ9.out.frozen 3); (have y4 := HZ9.out.frozen 4); dsimp only [RB.zero] at z0 z1 z2 z3 z4) | skip)))
    all_goals (
      go_wp2_with fail
      go_meet
      first
        | (have hz := HZ9
           exact ⟨_, q9, rfl, hz.out.stored q9, HQ9.out.unbox hz.out (grownBy_setB _ _ q9), (KB.setBx hbk _ _ (by omega)).1⟩)
        | exact ⟨_, q9, rfl, heap_alloc_at rfl, HQ9.out.under ((Below.refl _ _).alloc (Nat.le_refl _) _) (by simp), (KB.step (W := w7) hbk ((Below.refl _ _).alloc (Nat.le_refl _) _)).1⟩)
  case rest =>
  obtain ⟨g, q, rfl, hx⟩ := hcut
  have HX := Lib.hid hx.out.1
  have HB := Lib.hid hx.out.2.1
  have HW := Lib.hid (HB0.out.trans (hx.out.2.2.mono HB0.out.size))
  have hzg := hx.out.1.lt
  clear hx HC1 HC2 HC3 HZ1 HZ2 HZ3 HPL c0 c1 c2 c3 c4 hlt HB0
  have HE : Hid (b19.seq = q.sq ∧ b19.floor = q.fl) := ⟨HB.out.seq, HB.out.floor⟩
  have HCH : Hid (∀ W sq most, Below wc.heap.size wc W → (Lit.int .i64 most).wf = true → Calls Try.prog 42 #[q.val, .int .i64 sq, .int .i64 most] W (SncRet W b19 sq most)) := fun W sq most h hm => changes_any b19 q sq most W (HB.out.under h h.size) b19_ok hm
  have c0 := HX.out.cell 0 rfl
  have c1 := HX.out.cell 1 rfl
  have c2 := HX.out.cell 2 rfl
  have c3 := HX.out.cell 3 rfl
  have c4 := HX.out.cell 4 rfl
  have HS0 : Hid (ChS w wc g b19 q []) := ⟨HX.out, HB.out, HW.out, fun c h => by simp at h⟩
  clear HX HB HW HCH HE
  have c0 := HS0.out.box.cell 0 rfl
  have c1 := HS0.out.box.cell 1 rfl
  have c2 := HS0.out.box.cell 2 rfl
  have c3 := HS0.out.box.cell 3 rfl
  have c4 := HS0.out.box.cell 4 rfl
  go_upto_region 4 with (go_at_call 42; refine (changes_any b19 q 0 1 _ HS0.out.of b19_ok (by decide)).mono ?_; rintro e w1 ⟨h1, hb1⟩; rw [if_neg (by decide)] at h1; obtain ⟨ys, r1, hys, rfl, hn⟩ := h1; have he := ys0_of hys; subst he; rw [snc0] at hn; go_frame)
  have hS1 := HS0.out.push hb1 hn
  obtain ⟨g1, hg1⟩ : ∃ g, w1.heap.size = g := ⟨_, rfl⟩
  obtain ⟨W1, hW1⟩ : ∃ W, w1.alloc r1.obj = W := ⟨_, rfl⟩
  rw [hg1, hW1] at hS1
  dsimp only [RC.obj] at hW1
  rw [hW1, hg1]
  have HS1 := Lib.hid hS1
  clear hW1 hg1 hS1 hb1 hn hys c0 c1 c2 c3 c4 hzg HS0
  have c0 := HS1.out.box.cell 0 rfl
  have c1 := HS1.out.box.cell 1 rfl
  have c2 := HS1.out.box.cell 2 rfl
  have c3 := HS1.out.box.cell 3 rfl
  have c4 := HS1.out.box.cell 4 rfl
  have hzg := HS1.out.box.lt
  go_upto_region 5 with (go_at_call 42; refine (changes_any b19 q 1 0 _ HS1.out.of b19_ok (by decide)).mono ?_; rintro e w2 ⟨h1, hb1⟩; rw [if_neg (by decide)] at h1; obtain ⟨ys, r2, hys, rfl, hn⟩ := h1; have he := ys1_of hys; subst he; rw [snc1] at hn; go_frame)
  have hS2 := HS1.out.push hb1 hn
  obtain ⟨g2, hg2⟩ : ∃ g, w2.heap.size = g := ⟨_, rfl⟩
  obtain ⟨W2, hW2⟩ : ∃ W, w2.alloc r2.obj = W := ⟨_, rfl⟩
  rw [hg2, hW2] at hS2
  dsimp only [RC.obj] at hW2
  rw [hW2, hg2]
  have HS2 := Lib.hid hS2
  clear hW2 hg2 hS2 hb1 hn hys c0 c1 c2 c3 c4 hzg HS1
  have c0 := HS2.out.box.cell 0 rfl
  have c1 := HS2.out.box.cell 1 rfl
  have c2 := HS2.out.box.cell 2 rfl
  have c3 := HS2.out.box.cell 3 rfl
  have c4 := HS2.out.box.cell 4 rfl
  have hzg := HS2.out.box.lt
  go_upto_region 6 with (go_at_call 42; refine (changes_any b19 q 5 0 _ HS2.out.of b19_ok (by decide)).mono ?_; rintro e w3 ⟨h1, hb1⟩; rw [if_pos (by decide)] at h1; subst h1; go_frame)
  have hS3 := HS2.out.go (hb1.alloc hb1.size RC.zero.obj)
  obtain ⟨W3, hW3⟩ : ∃ W, w3.alloc RC.zero.obj = W := ⟨_, rfl⟩
  rw [hW3] at hS3
  dsimp only [RC.obj] at hW3
  rw [hW3]
  have HS3 := Lib.hid hS3
  clear hW3 hS3 hb1 c0 c1 c2 c3 c4 hzg HS2
  have HC1 := HS3.out.chg (g1, r1, ⟨[nB], [], [], 2, true⟩) (by simp)
  have HC2 := HS3.out.chg (g2, r2, ⟨[nB, nC], [], [nA], 4, false⟩) (by simp)
  dsimp only at HC1 HC2
  have d0 := HC1.1.cell 0 rfl
  have d1 := HC1.1.cell 1 rfl
  have d2 := HC1.1.cell 2 rfl
  have d3 := HC1.1.cell 3 rfl
  have d4 := HC1.1.cell 4 rfl
  have hz1 := HC1.1.lt
  have hz2 := HC2.1.lt
  have HK1 := Lib.hid HC1
  have HK2 := Lib.hid HC2
  clear HC1 HC2
  have hR1 : Rd (W3.alloc (.cells #[.string ⟨#[98]⟩] 9)) (W3.heap.size + 1) encS 1 (.slice (some ⟨W3.heap.size, 0, none⟩) 1 1) [nB] := Rd.one codecS (heap_alloc_at rfl) rfl (by omega)
  have hBA : Below W3.heap.size W3 (W3.alloc (.cells #[.string ⟨#[98]⟩] 9)) := (Below.refl _ _).alloc (Nat.le_refl _) _
  have HQ1 := Lib.hid (same19_yes ⟨[nB], [], [], 2, true⟩ r1 ⟨some ⟨W3.heap.size, 0, none⟩, 1, 1, none, 0, 0, none, 0, 0, 2, true⟩ (W3.alloc (.cells #[.string ⟨#[98]⟩] 9)) (HK1.out.2.under hBA (by simp)) ⟨by simpa using hR1, Rd.nil _ _, Rd.nil _ _, rfl, rfl⟩)
  have HBA := Lib.hid hBA
  clear hR1 hBA
  go_wp2_with fail
  refine HQ1.out.mono ?_
  rintro e w4 ⟨rfl, hb4⟩
  have HS4 := Lib.hid (HS3.out.go (HBA.out.trans (hb4.mono HBA.out.size)))
  clear hb4 d0 d1 d2 d3 d4 hz1 hz2 HS3 HK1 HK2 HBA HQ1
  have HC2 := HS4.out.chg (g2, r2, ⟨[nB, nC], [], [nA], 4, false⟩) (by simp)
  dsimp only at HC2
  have d0 := HC2.1.cell 0 rfl
  have d1 := HC2.1.cell 1 rfl
  have d2 := HC2.1.cell 2 rfl
  have d3 := HC2.1.cell 3 rfl
  have d4 := HC2.1.cell 4 rfl
  have hz2 := HC2.1.lt
  have hR1 : Rd ((w4.alloc (.cells #[.string ⟨#[98]⟩, .string ⟨#[99]⟩] 9)).alloc (.cells #[.string ⟨#[97]⟩] 9)) (w4.heap.size + 2) encS 1 (.slice (some ⟨w4.heap.size, 0, none⟩) 2 2) [nB, nC] := by
    refine ⟨some ⟨w4.heap.size, 0, none⟩, 2, rfl, by decide, by decide, by simp, fun a ha _ => ?_⟩
    cases ha
    refine ⟨w4.heap.size, 0, rfl, by omega, fun i x hx j u hu => ?_⟩
    have hblk : ((w4.alloc (.cells #[.string ⟨#[98]⟩, .string ⟨#[99]⟩] 9)).alloc (.cells #[.string ⟨#[97]⟩] 9)).heap[w4.heap.size]? = some (.cells #[.string ⟨#[98]⟩, .string ⟨#[99]⟩] 9 (0, 0)) := heap_alloc_lt (by simp) (heap_alloc_at rfl)
    have hi : i < 2 := by have := (List.getElem?_eq_some_iff.1 hx).1; simpa using this
    have hj : j = 0 := by have := (List.getElem?_eq_some_iff.1 hu).1; rw [codecS.1] at this; omega
    subst hj
    rw [cell_of_row _ _ _ _ _ _ hblk, ← hu]
    have hi2 : i = 0 ∨ i = 1 := by omega
    rcases hi2 with rfl | rfl <;> (cases hx; rfl)
  have hR2 : Rd ((w4.alloc (.cells #[.string ⟨#[98]⟩, .string ⟨#[99]⟩] 9)).alloc (.cells #[.string ⟨#[97]⟩] 9)) (w4.heap.size + 2) encS 1 (.slice (some ⟨w4.heap.size + 1, 0, none⟩) 1 1) [nA] := Rd.one codecS (heap_alloc_at (by simp)) rfl (by omega)
  have hBA : Below w4.heap.size w4 ((w4.alloc (.cells #[.string ⟨#[98]⟩, .string ⟨#[99]⟩] 9)).alloc (.cells #[.string ⟨#[97]⟩] 9)) := below2 _ _ _
  have HQ2 := Lib.hid (same19_yes ⟨[nB, nC], [], [nA], 4, false⟩ r2 ⟨some ⟨w4.heap.size, 0, none⟩, 2, 2, none, 0, 0, some ⟨w4.heap.size + 1, 0, none⟩, 1, 1, 4, false⟩ ((w4.alloc (.cells #[.string ⟨#[98]⟩, .string ⟨#[99]⟩] 9)).alloc (.cells #[.string ⟨#[97]⟩] 9)) (HC2.2.under hBA hBA.size) ⟨by simpa using hR1, Rd.nil _ _, by simpa using hR2, rfl, rfl⟩)
  have HBA := Lib.hid hBA
  clear hR1 hR2 hBA HC2
  go_wp2_with fail
  refine HQ2.out.mono ?_
  rintro e w5 ⟨rfl, hb5⟩
  have HS5 := Lib.hid (HS4.out.go (HBA.out.trans (hb5.mono HBA.out.size)))
  clear hb5 d0 d1 d2 d3 d4 HS4 HBA HQ2
  go_wp2_with fail
  go_ret
  exact ⟨rfl, HS5.out.below⟩
end Go.Proofs.Ythgkgjcnmahacaa
end

section
/- The law of what changed, walked. -/
set_option linter.unusedSimpArgs false
set_option linter.unusedVariables false
namespace Go.Proofs.Ythgkgjcnmahacaa
open Go.RowKit Go.OpenShut

/-- A box in a block, and that it is few. -/
structure BxS (w W : World) (b : BoxD) (r : RB) : Prop where
  box : BoxAt W w.heap.size r
  of : BoxOf W W.heap.size b r
  below : Below w.heap.size w W
theorem BxS.go {w W W' : World} {b : BoxD} {r : RB} (h : BxS w W b r) (hb : Below W.heap.size W W') : BxS w W' b r := ⟨h.box.under hb h.box.lt, h.of.under hb hb.size, h.below.trans (hb.mono h.below.size)⟩
theorem BxS.chs {w W : World} {b : BoxD} {r : RB} (h : BxS w W b r) : ChS w W w.heap.size b r [] := ⟨h.box, h.of, h.below, fun c h => by simp at h⟩

set_option maxRecDepth 200000 in
set_option maxHeartbeats 8000000 in
theorem sinceChanges_any (w : World) (b : BoxD) (r : RB) (seq most : Int) (hb : BoxOf w w.heap.size b r) (ob : b.Ok) (hwm : (Lit.int .i64 most).wf = true) :
    Calls Try.prog 9 #[r.val, .int .i64 seq, .int .i64 most] w fun e w' => e = .returned (.bool true) ∧ Below w.heap.size w w' := by
  have hA : Below w.heap.size w (w.alloc r.obj) := (Below.refl _ _).alloc (Nat.le_refl _) _
  have hS : BxS w (w.alloc r.obj) b r := ⟨heap_alloc_at rfl, hb.under hA hA.size, hA⟩
  have HOB := Lib.hid ob
  have HWM := Lib.hid hwm
  have HSC : Hid ((¬ (seq < b.floor ∨ b.seq < seq)) ∨ (seq < b.floor ∨ b.seq < seq)) := (Classical.em _).symm
  clear hb ob hwm hA
  go_enter Try.func9, Try.ntmps9
  go_upto_region 1 with fail
  obtain ⟨W0, hW0⟩ : ∃ W, w.alloc r.obj = W := ⟨_, rfl⟩
  rw [hW0] at hS
  dsimp only [RB.obj] at hW0
  rw [hW0]
  have HS0 := Lib.hid hS
  clear hW0 hS
  go_wp2_with fail
  refine (awake19_any _).mono ?_
  rintro e w1 ⟨rfl, hb1⟩
  have HS1 := Lib.hid (HS0.out.go hb1)
  clear hb1 HS0
  have c0 := HS1.out.box.cell 0 rfl
  have c1 := HS1.out.box.cell 1 rfl
  have c2 := HS1.out.box.cell 2 rfl
  have c3 := HS1.out.box.cell 3 rfl
  have c4 := HS1.out.box.cell 4 rfl
  go_wp2_with fail
  refine (few19_any b r [] (.slice none 0 0) w1 HS1.out.of HOB.out (Rd.nil _ _) (fun o h => by simp at h)).mono ?_
  rintro e w2 ⟨y, rfl, HF, hb2⟩
  have HS2 := Lib.hid (HS1.out.go hb2)
  clear hb2 HS1 c0 c1 c2 c3 c4
  cases y with
  | false =>
    go_wp2_with fail
    refine (awake19_any _).mono ?_
    rintro e w3 ⟨rfl, hb3⟩
    go_wp2_with fail
    go_ret
    exact ⟨rfl, (HS2.out.go hb3).below⟩
  | true =>
  have HF1 := Lib.hid (HF.out rfl)
  clear HF
  have c0 := HS2.out.box.cell 0 rfl
  have c1 := HS2.out.box.cell 1 rfl
  have c2 := HS2.out.box.cell 2 rfl
  have c3 := HS2.out.box.cell 3 rfl
  have c4 := HS2.out.box.cell 4 rfl
  rcases HSC.out with hsc | hsc
  · have HSC := Lib.hid hsc
    clear hsc
    go_upto_region 4 with (go_at_call 42; refine (changes_any b r seq most _ HS2.out.of HOB.out HWM.out).mono ?_; rintro e w3 ⟨h1, hb1⟩; rw [if_neg HSC.out] at h1; obtain ⟨ys, r1, hys, rfl, hn⟩ := h1; go_frame)
    have hS3 := HS2.out.chs.push hb1 hn
    have HYS := Lib.hid hys
    obtain ⟨g1, hg1⟩ : ∃ g, w3.heap.size = g := ⟨_, rfl⟩
    obtain ⟨W3, hW3⟩ : ∃ W, w3.alloc r1.obj = W := ⟨_, rfl⟩
    rw [hg1, hW3] at hS3
    dsimp only [RC.obj] at hW3
    rw [hW3, hg1]
    have HS3 := Lib.hid hS3
    clear hW3 hg1 hS3 hb1 hn hys c0 c1 c2 c3 c4 HS2
    have c0 := HS3.out.box.cell 0 rfl
    have c1 := HS3.out.box.cell 1 rfl
    have c2 := HS3.out.box.cell 2 rfl
    have c3 := HS3.out.box.cell 3 rfl
    have c4 := HS3.out.box.cell 4 rfl
    go_upto_region 5 with (go_at_call 43; refine (refChanges_any b r seq most _ HS3.out.of (by have := HF1.out.2.2.1; omega) HWM.out).mono ?_; rintro e w4 ⟨h1, hb1⟩; rw [if_neg HSC.out] at h1; obtain ⟨zs, r2, hzs, rfl, hn⟩ := h1; (have hyz := IsStable.unique cmpP hzs HYS.out); subst hyz; go_frame)
    have hS4 := HS3.out.push hb1 hn
    obtain ⟨g2, hg2⟩ : ∃ g, w4.heap.size = g := ⟨_, rfl⟩
    obtain ⟨W4, hW4⟩ : ∃ W, w4.alloc r2.obj = W := ⟨_, rfl⟩
    rw [hg2, hW4] at hS4
    dsimp only [RC.obj] at hW4
    rw [hW4, hg2]
    have HS4 := Lib.hid hS4
    clear hW4 hg2 hS4 hb1 hn hzs c0 c1 c2 c3 c4 HS3
    have HC1 := HS4.out.chg (g1, r1, sncD b.seq zs most) (by simp)
    have HC2 := HS4.out.chg (g2, r2, sncD b.seq zs most) (by simp)
    dsimp only at HC1 HC2
    have d0 := HC1.1.cell 0 rfl
    have d1 := HC1.1.cell 1 rfl
    have d2 := HC1.1.cell 2 rfl
    have d3 := HC1.1.cell 3 rfl
    have d4 := HC1.1.cell 4 rfl
    have f0 := HC2.1.cell 0 rfl
    have f1 := HC2.1.cell 1 rfl
    have f2 := HC2.1.cell 2 rfl
    have f3 := HC2.1.cell 3 rfl
    have f4 := HC2.1.cell 4 rfl
    have HQ := Lib.hid (same19_yes _ r1 r2 W4 HC1.2 HC2.2)
    clear HC1 HC2
    go_wp2_with fail
    refine HQ.out.mono ?_
    rintro e w5 ⟨rfl, hb5⟩
    go_wp2_with fail
    go_ret
    exact ⟨rfl, (HS4.out.go hb5).below⟩
  · have HSC := Lib.hid hsc
    clear hsc
    go_upto_region 4 with (go_at_call 42; refine (changes_any b r seq most _ HS2.out.of HOB.out HWM.out).mono ?_; rintro e w3 ⟨h1, hb1⟩; rw [if_pos HSC.out] at h1; subst h1; go_frame)
    have hS3 := HS2.out.chs.push hb1 (NewChg.zero w3 0)
    obtain ⟨g1, hg1⟩ : ∃ g, w3.heap.size = g := ⟨_, rfl⟩
    obtain ⟨W3, hW3⟩ : ∃ W, w3.alloc RC.zero.obj = W := ⟨_, rfl⟩
    rw [hg1, hW3] at hS3
    dsimp only [RC.obj] at hW3
    rw [hW3, hg1]
    have HS3 := Lib.hid hS3
    clear hW3 hg1 hS3 hb1 c0 c1 c2 c3 c4 HS2
    have c0 := HS3.out.box.cell 0 rfl
    have c1 := HS3.out.box.cell 1 rfl
    have c2 := HS3.out.box.cell 2 rfl
    have c3 := HS3.out.box.cell 3 rfl
    have c4 := HS3.out.box.cell 4 rfl
    go_upto_region 5 with (go_at_call 43; refine (refChanges_any b r seq most _ HS3.out.of (by have := HF1.out.2.2.1; omega) HWM.out).mono ?_; rintro e w4 ⟨h1, hb1⟩; rw [if_pos HSC.out] at h1; subst h1; go_frame)
    have hS4 := HS3.out.push hb1 (NewChg.zero w4 0)
    obtain ⟨g2, hg2⟩ : ∃ g, w4.heap.size = g := ⟨_, rfl⟩
    obtain ⟨W4, hW4⟩ : ∃ W, w4.alloc RC.zero.obj = W := ⟨_, rfl⟩
    rw [hg2, hW4] at hS4
    dsimp only [RC.obj] at hW4
    rw [hW4, hg2]
    have HS4 := Lib.hid hS4
    clear hW4 hg2 hS4 hb1 c0 c1 c2 c3 c4 HS3
    have HC1 := HS4.out.chg (g1, RC.zero, ChD.zero) (by simp)
    have HC2 := HS4.out.chg (g2, RC.zero, ChD.zero) (by simp)
    dsimp only at HC1 HC2
    have d0 := HC1.1.cell 0 rfl
    have d1 := HC1.1.cell 1 rfl
    have d2 := HC1.1.cell 2 rfl
    have d3 := HC1.1.cell 3 rfl
    have d4 := HC1.1.cell 4 rfl
    have f0 := HC2.1.cell 0 rfl
    have f1 := HC2.1.cell 1 rfl
    have f2 := HC2.1.cell 2 rfl
    have f3 := HC2.1.cell 3 rfl
    have f4 := HC2.1.cell 4 rfl
    have HQ := Lib.hid (same19_yes _ RC.zero RC.zero W4 HC1.2 HC2.2)
    clear HC1 HC2
    go_wp2_with fail
    refine HQ.out.mono ?_
    rintro e w5 ⟨rfl, hb5⟩
    go_wp2_with fail
    go_ret
    exact ⟨rfl, (HS4.out.go hb5).below⟩
end Go.Proofs.Ythgkgjcnmahacaa
end
