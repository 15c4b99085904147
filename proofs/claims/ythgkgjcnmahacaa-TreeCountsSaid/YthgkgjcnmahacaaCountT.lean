/- tree.Count: how many values a tree has. -/
import Derived.Test.YthgkgjcnmahacaaTree3
set_option linter.unusedSimpArgs false
set_option linter.unusedVariables false
namespace Go.Proofs.Ythgkgjcnmahacaa
open Go.RowKit Go.OpenShut

mutual
/-- How many values a tree has. -/
def countT : JV → Nat
  | .mk _ _ _ l m => 1 + countL l + countM m
def countL : List JV → Nat
  | [] => 0
  | t :: l => countT t + countL l
def countM : List (ByteArray × JV) → Nat
  | [] => 0
  | (_, t) :: m => countT t + countM m
end
theorem countL_take {l : List JV} {j : Nat} {t : JV} (h : l[j]? = some t) : countL (l.take (j + 1)) = countL (l.take j) + countT t := by
  induction l generalizing j with
  | nil => simp at h
  | cons a l ih =>
    cases j with
    | zero =>
      simp at h
      subst h
      simp [countL]
    | succ j =>
      rw [List.getElem?_cons_succ] at h
      rw [List.take_succ_cons, List.take_succ_cons]
      unfold countL
      rw [ih h]
      omega
theorem countM_take {m : List (ByteArray × JV)} {j : Nat} {p : ByteArray × JV} (h : m[j]? = some p) : countM (m.take (j + 1)) = countM (m.take j) + countT p.2 := by
  induction m generalizing j with
  | nil => simp at h
  | cons a m ih =>
    obtain ⟨a, b⟩ := a
    cases j with
    | zero =>
      simp at h
      subst h
      simp [countM]
    | succ j =>
      rw [List.getElem?_cons_succ] at h
      rw [List.take_succ_cons, List.take_succ_cons]
      unfold countM
      rw [ih h]
      omega

/-- The count is answered, as an int holds it. -/
def CountRet (w : World) (t : JV) (e : Ending) (w' : World) : Prop := e = .returned (.int .i64 (IntKind.i64.wrap (countT t))) ∧ Below w.heap.size w w'
theorem wrap_step (a b c : Int) (h : a + b = c) : wrap64 (IntKind.i64.wrap a + wrap64 b) = IntKind.i64.wrap c := by
  subst h
  rw [IntKind.wrap_i64, IntKind.wrap_i64]
  unfold wrap64
  omega

set_option maxRecDepth 100000 in
set_option maxHeartbeats 2000000 in
theorem countT_any (N : Nat) : ∀ (t : JV) (r : RV) (w : World), SizeOf.sizeOf t ≤ N → TreeOf w w.heap.size t r → t.Ok →
    Calls Try.prog 16 #[r.val] w (CountRet w t) := by
  induction N with
  | zero => intro t r w hN; cases t; simp at hN
  | succ N ih =>
    intro t r w hN ht ot
    cases ht with
    | @mk _ l m rs rms hl el hcl hm em hcn hcm =>
    obtain ⟨k, n, s, pl, nl, cl, pm, nm, cm⟩ := r
    cases ot with
    | mk _ _ _ bl bm okl oks okm =>
    dsimp only [RV.val] at *
    have eL := rd_nlen hl
    have eM := rd_nlen hm
    have HT : Hid (∀ (i : Nat) t q, l[i]? = some t → rs[i]? = some q → ∀ W, Below w.heap.size w W → Calls Try.prog 16 #[q.val] W (CountRet W t)) :=
      fun i t q h1 h2 W hb => ih t q W (by have := JV.lt_l (k := k) (n := n) (s := s) (m := m) h1; omega) ((hcl i t q h1 h2).under hb hb.size) (okl i t h1)
    have HS : Hid (∀ (i : Nat) p q, m[i]? = some p → rms[i]? = some q → ∀ W, Below w.heap.size w W → Calls Try.prog 16 #[q.v.val] W (CountRet W p.2)) :=
      fun i p q h1 h2 W hb => ih p.2 q.v W (by have := JV.lt_m (k := k) (n := n) (s := s) (l := l) h1; omega) ((hcm i p q h1 h2).under hb hb.size) (okm i p h1)
    have HL := Lib.hid hl
    have HM := Lib.hid hm
    have E1 : Hid (l.length = nl ∧ rs.length = nl) := ⟨by omega, by omega⟩
    have E2 : Hid (m.length = nm ∧ rms.length = nm) := ⟨by omega, by omega⟩
    have hnl : nl ≤ 1759218604390 := by omega
    have hnm : nm ≤ 1466015503658 := by omega
    have hA0 : VAt (w.alloc (.cells #[.int .i64 k, .int .i64 n, .string s, .slice pl nl cl, .slice pm nm cm] 25)) w.heap.size ⟨k, n, s, pl, nl, cl, pm, nm, cm⟩ := heap_alloc_at rfl
    have hB0 : Below w.heap.size w (w.alloc (.cells #[.int .i64 k, .int .i64 n, .string s, .slice pl nl cl, .slice pm nm cm] 25)) := (Below.refl _ _).alloc (Nat.le_refl _) _
    clear ih hcl hcn hcm hl hm okl oks okm el em bl bm eL eM hN
    go_enter Try.func16, Try.ntmps16
    go_upto_region 1 with fail
    obtain ⟨W0, hW0⟩ : ∃ W0, (w.alloc (.cells #[.int .i64 k, .int .i64 n, .string s, .slice pl nl cl, .slice pm nm cm] 25)) = W0 := ⟨_, rfl⟩
    rw [hW0] at hA0 hB0 ⊢
    clear hW0
    have hz := hA0.lt
    have c3 := hA0.cell 3 rfl
    have c4 := hA0.cell 4 rfl
    dsimp only at c3 c4
    clear hA0
    go_wp2_with fail
    go_loopw [3, 11] (fun a i wr => ∃ (g : Int) (j : Nat), j ≤ nl ∧ a = .int .i64 g ∧ i = .int .i64 j ∧ Hid (g = IntKind.i64.wrap ((1 + countL (l.take j) : Nat) : Int)) ∧ Below W0.heap.size W0 wr) (fun _ i _ => nl - (intOf i).toNat)
    case atStart => exact ⟨1, 0, Nat.zero_le _, rfl, rfl, by unfold Hid; simp [countL]; decide, Below.refl _ _⟩
    case round =>
      obtain ⟨g, j, hj, rfl, rfl, hg, hbr⟩ := hrel
      have hbw : Below w.heap.size w wr := hB0.trans (hbr.mono hB0.size)
      by_cases hlt : j < nl
      · obtain ⟨tx, htx⟩ : ∃ x, l[j]? = some x := ⟨_, List.getElem?_eq_getElem (by have := E1.out; omega)⟩
        obtain ⟨x, hx⟩ : ∃ x, rs[j]? = some x := ⟨_, List.getElem?_eq_getElem (by have := E1.out; omega)⟩
        obtain ⟨b1, o1, rfl, hb1, hc1⟩ := rd_at' (HL.out.below hbw (Nat.le_refl _)) hx
        have f0 := hc1 0 _ rfl
        have f1 := hc1 1 _ rfl
        have f2 := hc1 2 _ rfl
        have f3 := hc1 3 _ rfl
        have f4 := hc1 4 _ rfl
        rw [Nat.add_zero] at f0
        have HC := Lib.hid (HT.out j tx x htx hx)
        have HTX := Lib.hid (countL_take htx)
        have hk0 : (0 : Int) ≤ (j : Int) := Int.natCast_nonneg _
        have hk1 : (j : Int) < (nl : Int) := by omega
        have HBR := Lib.hid hbr
        have hbx : Below w.heap.size w (wr.alloc (.cells #[.int .i64 x.k, .int .i64 x.n, .string x.s, .slice x.pl x.nl x.cl, .slice x.pm x.nm x.cm] 25)) := hbw.alloc hbw.size _
        have HBX := Lib.hid hbx
        clear hc1 htx hx hbr hbx
        go_wp2_with (go_at_call 16; refine (HC.out _ HBX.out).mono ?_; rintro e w1 ⟨rfl, hb1'⟩)
        go_roundw
        case rel =>
          refine ⟨_, j + 1, by omega, rfl, by go_num, ?_, (HBR.out.alloc HBR.out.size _).trans (hb1'.mono (by have := HBR.out.size; simp; omega))⟩
          unfold Hid
          rw [HTX.out, hg.out]
          exact wrap_step _ _ _ (by omega)
        case measure => simp [intOf]; omega
      · obtain rfl : j = nl := by omega
        have c4 := bcs hbr hz c4
        have hsz : W0.heap.size ≤ wr.heap.size := hbr.size
        have hg2 : Hid (g = IntKind.i64.wrap ((1 + countL l : Nat) : Int)) := by
          have h := hg.out
          rw [List.take_of_length_le (by have := E1.out; omega)] at h
          exact h
        clear HT HL E1 hbr hg c3
        obtain ⟨wo, rfl⟩ : ∃ wo : World, wo = wr := ⟨_, rfl⟩
        go_wp2_with fail
        go_loopw [3, 23] (fun a i wr => ∃ (g : Int) (j : Nat), j ≤ nm ∧ a = .int .i64 g ∧ i = .int .i64 j ∧ Hid (g = IntKind.i64.wrap ((1 + countL l + countM (m.take j) : Nat) : Int)) ∧ Below wo.heap.size wo wr) (fun _ i _ => nm - (intOf i).toNat)
        case atStart => exact ⟨g, 0, Nat.zero_le _, rfl, rfl, by unfold Hid; simpa [countM] using hg2.out, Below.refl _ _⟩
        case round =>
          obtain ⟨g, j, hj, rfl, rfl, hg, hbr⟩ := hrel
          have hbw2 : Below w.heap.size w wr := hbw.trans (hbr.mono (by omega))
          by_cases hlt : j < nm
          · obtain ⟨tx, htx⟩ : ∃ x, m[j]? = some x := ⟨_, List.getElem?_eq_getElem (by have := E2.out; omega)⟩
            obtain ⟨x, hx⟩ : ∃ x, rms[j]? = some x := ⟨_, List.getElem?_eq_getElem (by have := E2.out; omega)⟩
            obtain ⟨b1, o1, rfl, hb1, hc1⟩ := rd_at' (HM.out.below hbw2 (Nat.le_refl _)) hx
            have f0 := hc1 0 _ rfl
            have f1 := hc1 1 _ rfl
            have f2 := hc1 2 _ rfl
            have f3 := hc1 3 _ rfl
            have f4 := hc1 4 _ rfl
            have f5 := hc1 5 _ rfl
            rw [Nat.add_zero] at f0
            have HC := Lib.hid (HS.out j tx x htx hx)
            have HTX := Lib.hid (countM_take htx)
            have hk0 : (0 : Int) ≤ (j : Int) := Int.natCast_nonneg _
            have hk1 : (j : Int) < (nm : Int) := by omega
            have HBR := Lib.hid hbr
            have hbx : Below w.heap.size w (wr.alloc (.cells #[.string x.name, .int .i64 x.v.k, .int .i64 x.v.n, .string x.v.s, .slice x.v.pl x.v.nl x.v.cl, .slice x.v.pm x.v.nm x.v.cm] 90)) := hbw2.alloc hbw2.size _
            have HBX := Lib.hid hbx
            clear hc1 htx hx hbr hbx
            go_wp2_with (go_at_call 16; refine (HC.out _ HBX.out).mono ?_; rintro e w1 ⟨rfl, hb1'⟩)
            go_roundw
            case rel =>
              refine ⟨_, j + 1, by omega, rfl, by go_num, ?_, (HBR.out.alloc HBR.out.size _).trans (hb1'.mono (by have := HBR.out.size; simp; omega))⟩
              unfold Hid
              rw [HTX.out, hg.out]
              exact wrap_step _ _ _ (by omega)
            case measure => simp [intOf]; omega
          · obtain rfl : j = nm := by omega
            go_wp2_with fail
            go_ret
            refine ⟨?_, hbw2⟩
            have h := hg.out
            rw [List.take_of_length_le (by have := E2.out; omega)] at h
            show Ending.returned (.int .i64 g) = _
            rw [h]
            unfold countT
            rfl
end Go.Proofs.Ythgkgjcnmahacaa
