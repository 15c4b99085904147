import Derived.Test.YthgkgjcnmahacaaTs09
import Derived.Test.YthgkgjcnmahacaaTs01
import Derived.ProofKit
import Derived.Below
import Derived.Test.YthgkgjcnmahacaaProg
import Derived.WalkKit
import Derived.WalkSpells
import Derived.WalkLawsBesides
import Derived.BigQuiet
import Derived.Deep.QuietTactic
import Derived.Lib.Hide
import Derived.OpenShut
import Derived.Test.YthgkgjcnmahacaaTs00
import Derived.Laws.AppendOwnNone
section
/- The law's answers that the document fixes: true. -/
set_option linter.unusedSimpArgs false
set_option linter.unusedVariables false
namespace Go.Proofs.Ythgkgjcnmahacaa
open Go.RowKit Go.OpenShut

theorem TreeOf.n_of {w : World} {B : Nat} {k n : Int} {s : ByteArray} {l : List JV} {m : List (ByteArray × JV)} {r : RV} (h : TreeOf w B (.mk k n s l m) r) : r.n = n := by
  cases h; rfl
theorem two_tree {w : World} {a b : ByteArray} {na nb : Int} {e : Ending} {w' : World} (h : MapRet w 0 [(a, numT na), (b, numT nb)] e w') :
    ∃ q : RV, e = .returned q.val ∧ TreeOf w' w'.heap.size (.mk 6 0 ⟨#[]⟩ [] [(a, numT na), (b, numT nb)]) q ∧ Below w.heap.size w w' := by
  obtain ⟨pm, nm, cm, rms, rfl, ho, hm, hb⟩ := h
  exact ⟨_, rfl, TreeOf.map ho hm (Nat.zero_le _), hb⟩

theorem tgetA {w : World} {v : RV} (h : TreeOf w w.heap.size tvT v) : Calls Try.prog 51 #[v.val, .string nA] w (fun e w' => ∃ x : RV, e = .returned (.tuple #[x.val, .bool true]) ∧ TreeOf w' w'.heap.size (numT 2) x ∧ Below w.heap.size w w') :=
  (get_any tvT v nA w h tv_ok).mono fun e w' ⟨x, b, he, hb, hx, hw⟩ => by
    rw [tv_a] at hb hx
    subst hb
    exact ⟨x, he, hx, hw⟩
theorem tgetC {w : World} {v : RV} (h : TreeOf w w.heap.size tvT v) : Calls Try.prog 51 #[v.val, .string nC] w (fun e w' => ∃ x : RV, e = .returned (.tuple #[x.val, .bool false]) ∧ TreeOf w' w'.heap.size JV.zero x ∧ Below w.heap.size w w') :=
  (get_any tvT v nC w h tv_ok).mono fun e w' ⟨x, b, he, hb, hx, hw⟩ => by
    rw [tv_c] at hb hx
    subst hb
    exact ⟨x, he, hx, hw⟩

/-- The members of a map. -/
theorem field_mem (k n : Int) (s : ByteArray) (pl pm : Option Addr) (nl cl nm cm : Nat) (w : World) : (Instr.field 25 (.agg #[.int .i64 k, .int .i64 n, .string s, .slice pl nl cl, .slice pm nm cm]) 4).run Try.prog w = .ok (.slice pm nm cm) w := by kernel_rfl
section
variable {B : Nat} {W w : World} (hk : KB B W w) (hz : Hid (B ≤ W.heap.size))
include hk hz
theorem KB.le : B ≤ w.heap.size := Nat.le_trans hz.out hk.1.size
theorem KB.tree {t : JV} {r : RV} (h : Hid (TreeOf W B t r)) : TreeOf w w.heap.size t r := h.out.under hk.1 (hk.le hz)
theorem KB.stepB {w' : World} (h : Below w.heap.size w w') : KB B W w' := KB.mk (hk.1.trans (h.mono (hk.le hz)))
theorem tsame {v u : RV} (h : Hid (TreeOf W B tvT v)) (h' : Hid (TreeOf W B twT u)) : Calls Try.prog 35 #[v.val, u.val] w (fun e w' => e = .returned (.bool true) ∧ KB B W w') :=
  (sameT_any _ tvT twT v u w (Nat.le_refl _) (hk.tree hz h) (hk.tree hz h') tv_ok tw_ok).mono fun e w' ⟨b, he, hb, hw⟩ => by
    rw [hb.2 tv_same] at he
    exact ⟨he, hk.stepB hz hw⟩
theorem tsort {v : RV} (h : Hid (TreeOf W B tvT v)) : Calls Try.prog 17 #[v.val] w (fun e w' => ∃ q : RV, e = .returned q.val ∧ Hid (TreeOf w' w'.heap.size twT q) ∧ KB B W w') :=
  (sort_any _ tvT v w (Nat.le_refl _) (hk.tree hz h) tv_ok).mono fun e w' ⟨u, hu, q, he, hq, hw⟩ => by
    rw [tv_sort hu] at hq
    exact ⟨q, he, Lib.hid (hq.tree), hk.stepB hz hw⟩
theorem tsame5 {q u : RV} (hq : Hid (TreeOf w w.heap.size twT q)) (h : Hid (TreeOf W B twT u)) : Calls Try.prog 31 #[q.val, u.val] w (fun e w' => e = .returned (.bool true) ∧ KB B W w') :=
  (same5_any _ twT twT q u w (Nat.le_refl _) hq.out (hk.tree hz h) tw_ok tw_ok).mono fun e w' ⟨b, he, hb, hw⟩ => by
    rw [hb.2 rfl] at he
    exact ⟨he, hk.stepB hz hw⟩
theorem tcount {v : RV} (h : Hid (TreeOf W B tvT v)) : Calls Try.prog 16 #[v.val] w (fun e w' => e = .returned (.int .i64 3) ∧ KB B W w') :=
  (countT_any _ tvT v w (Nat.le_refl _) (hk.tree hz h) tv_ok).mono fun e w' ⟨he, hw⟩ => by
    rw [tv_count] at he
    exact ⟨he, hk.stepB hz hw⟩
theorem twith {v x : RV} (h : Hid (TreeOf W B tvT v)) (h' : Hid (TreeOf W B (numT 2) x)) (hn : Hid (x.n = 2)) : Calls Try.prog 37 #[v.val, .string nC, .agg #[.int .i64 x.k, .int .i64 2, .string x.s, .slice x.pl x.nl x.cl, .slice x.pm x.nm x.cm]] w (fun e w' => ∃ p c, e = .returned (.agg #[.int .i64 6, .int .i64 0, .string ⟨#[]⟩, .slice none 0 0, .slice p 3 c]) ∧ KB B W w') := by
  rw [← hn.out]
  exact (with_any tvT (numT 2) v x nC w w.heap.size (Nat.le_refl _) (hk.tree hz h) tv_ok (hk.tree hz h') (by decide)).mono fun e w' hm => by
    obtain ⟨p, n, c, rms, he, ho, hms, hw⟩ := hm
    have := rd_nlen (ho.rd codecM)
    have h3 := hms.len
    rw [tv_with] at h3
    obtain rfl : n = 3 := by omega
    exact ⟨p, c, he, hk.stepB hz hw⟩
theorem twithout {v : RV} (h : Hid (TreeOf W B tvT v)) : Calls Try.prog 38 #[v.val, .string nA] w (fun e w' => ∃ p c, e = .returned (.agg #[.int .i64 6, .int .i64 0, .string ⟨#[]⟩, .slice none 0 0, .slice p 1 c]) ∧ KB B W w') :=
  (without_any tvT v nA w w.heap.size (Nat.le_refl _) (hk.tree hz h) tv_ok (by decide)).mono fun e w' hm => by
    obtain ⟨p, n, c, rms, he, ho, hms, hw⟩ := hm
    have := rd_nlen (ho.rd codecM)
    have h3 := hms.len
    rw [tv_without] at h3
    obtain rfl : n = 1 := by omega
    exact ⟨p, c, he, hk.stepB hz hw⟩
end

set_option maxRecDepth 100000 in
set_option maxHeartbeats 4000000 in
theorem tawake_any (w : World) : Calls Try.prog 14 #[] w fun e w' => e = .returned (.bool true) ∧ Below w.heap.size w w' := by
  have h1 : ∀ w, Calls Try.prog 50 #[.string ⟨#[98]⟩, .string ⟨#[97]⟩] w (fun e w' => ∃ q : RV, e = .returned q.val ∧ TreeOf w' w'.heap.size tvT q ∧ Below w.heap.size w w') := fun w =>
    (two_any ⟨#[98]⟩ ⟨#[97]⟩ 1 2 w rfl rfl (by decide) (by decide)).mono fun e w' h => two_tree h
  have h2 : ∀ w, Calls Try.prog 50 #[.string ⟨#[97]⟩, .string ⟨#[98]⟩] w (fun e w' => ∃ q : RV, e = .returned q.val ∧ TreeOf w' w'.heap.size twT q ∧ Below w.heap.size w w') := fun w =>
    (two_any ⟨#[97]⟩ ⟨#[98]⟩ 2 1 w rfl rfl (by decide) (by decide)).mono fun e w' h => two_tree h
  have H1 := Lib.hid h1
  have H2 := Lib.hid h2
  clear h1 h2
  go_enter Try.func14, Try.ntmps14
  go_upto_region 2 with (go_at_call 50; refine (H1.out _).mono ?_; rintro e w1 ⟨v, rfl, hv, hb1⟩)
  have hA1 : VAt (w1.alloc (.cells #[.int .i64 v.k, .int .i64 v.n, .string v.s, .slice v.pl v.nl v.cl, .slice v.pm v.nm v.cm] 25)) w1.heap.size v := heap_alloc_at rfl
  have hv1 := hv.under (w' := w1.alloc (.cells #[.int .i64 v.k, .int .i64 v.n, .string v.s, .slice v.pl v.nl v.cl, .slice v.pm v.nm v.cm] 25)) ((Below.refl _ _).alloc (Nat.le_refl _) _) (by simp : w1.heap.size ≤ (w1.alloc (.cells #[.int .i64 v.k, .int .i64 v.n, .string v.s, .slice v.pl v.nl v.cl, .slice v.pm v.nm v.cm] 25)).heap.size)
  have hb1' := hb1.alloc hb1.size (.cells #[.int .i64 v.k, .int .i64 v.n, .string v.s, .slice v.pl v.nl v.cl, .slice v.pm v.nm v.cm] 25)
  have hg1 := hb1.size
  obtain ⟨W1, hW1⟩ : ∃ W1, w1.alloc (.cells #[.int .i64 v.k, .int .i64 v.n, .string v.s, .slice v.pl v.nl v.cl, .slice v.pm v.nm v.cm] 25) = W1 := ⟨_, rfl⟩
  obtain ⟨g1, hgg⟩ : ∃ g, w1.heap.size = g := ⟨_, rfl⟩
  rw [hW1, hgg] at hA1
  rw [hW1] at hv1 hb1' ⊢
  rw [hgg] at hg1 ⊢
  clear hW1 hgg hv hb1
  go_upto_region 3 with (go_at_call 50; refine (H2.out _).mono ?_; rintro e w2 ⟨u, rfl, hu, hb2⟩)
  have hA2 : VAt (w2.alloc (.cells #[.int .i64 u.k, .int .i64 u.n, .string u.s, .slice u.pl u.nl u.cl, .slice u.pm u.nm u.cm] 25)) w2.heap.size u := heap_alloc_at rfl
  have hb2' := hb2.alloc hb2.size (.cells #[.int .i64 u.k, .int .i64 u.n, .string u.s, .slice u.pl u.nl u.cl, .slice u.pm u.nm u.cm] 25)
  have hu1 := hu.under (w' := w2.alloc (.cells #[.int .i64 u.k, .int .i64 u.n, .string u.s, .slice u.pl u.nl u.cl, .slice u.pm u.nm u.cm] 25)) ((Below.refl _ _).alloc (Nat.le_refl _) _) (by simp : w2.heap.size ≤ (w2.alloc (.cells #[.int .i64 u.k, .int .i64 u.n, .string u.s, .slice u.pl u.nl u.cl, .slice u.pm u.nm u.cm] 25)).heap.size)
  have hg2 := hb2.size
  obtain ⟨W2, hW2⟩ : ∃ W2, w2.alloc (.cells #[.int .i64 u.k, .int .i64 u.n, .string u.s, .slice u.pl u.nl u.cl, .slice u.pm u.nm u.cm] 25) = W2 := ⟨_, rfl⟩
  obtain ⟨g2, hgg⟩ : ∃ g, w2.heap.size = g := ⟨_, rfl⟩
  rw [hW2, hgg] at hA2
  rw [hW2] at hu1 hb2' ⊢
  rw [hgg] at hg2 ⊢
  clear hW2 hgg hu hb2
  have hz1 := hA1.lt
  have hA1 := hA1.under hb2' hz1
  have hv2 := hv1.under hb2' hb2'.size
  have HB2 := Lib.hid (hb1'.trans (hb2'.mono (by omega)))
  clear hv1 hb1' hb2'
  have HV := Lib.hid hv2
  have HU := Lib.hid hu1
  have c0 := hA1.cell 0 rfl
  have c1 := hA1.cell 1 rfl
  have c2 := hA1.cell 2 rfl
  have c3 := hA1.cell 3 rfl
  have c4 := hA1.cell 4 rfl
  have HA1 := Lib.hid hA1
  have HA2 := Lib.hid hA2
  clear hA1 hA2 hv2 hu1
  go_upto_region 4 with (go_at_call 51; refine (tgetA HV.out).mono ?_; rintro e w3 ⟨x, rfl, hx, hb3⟩)
  have hxn : Hid (x.n = 2) := TreeOf.n_of hx
  have hA3 : VAt (w3.alloc (.cells #[.int .i64 x.k, .int .i64 x.n, .string x.s, .slice x.pl x.nl x.cl, .slice x.pm x.nm x.cm] 25)) w3.heap.size x := heap_alloc_at rfl
  have hb3' := hb3.alloc hb3.size (.cells #[.int .i64 x.k, .int .i64 x.n, .string x.s, .slice x.pl x.nl x.cl, .slice x.pm x.nm x.cm] 25)
  have hx1 := hx.under (w' := w3.alloc (.cells #[.int .i64 x.k, .int .i64 x.n, .string x.s, .slice x.pl x.nl x.cl, .slice x.pm x.nm x.cm] 25)) ((Below.refl _ _).alloc (Nat.le_refl _) _) (by simp : w3.heap.size ≤ (w3.alloc (.cells #[.int .i64 x.k, .int .i64 x.n, .string x.s, .slice x.pl x.nl x.cl, .slice x.pm x.nm x.cm] 25)).heap.size)
  have hg3 := hb3.size
  obtain ⟨W3, hW3⟩ : ∃ W3, w3.alloc (.cells #[.int .i64 x.k, .int .i64 x.n, .string x.s, .slice x.pl x.nl x.cl, .slice x.pm x.nm x.cm] 25) = W3 := ⟨_, rfl⟩
  obtain ⟨g3, hgg⟩ : ∃ g, w3.heap.size = g := ⟨_, rfl⟩
  rw [hW3, hgg] at hA3
  rw [hW3] at hx1 hb3' ⊢
  rw [hgg] at hg3 ⊢
  clear hW3 hgg hx hb3
  have hz2 := HA2.out.lt
  have hb2 := HB2.out.size
  have HA1 := Lib.hid (HA1.out.under hb3' (by omega))
  have HA2 := Lib.hid (HA2.out.under hb3' hz2)
  have HV := Lib.hid (HV.out.under hb3' hb3'.size)
  have HU := Lib.hid (HU.out.under hb3' hb3'.size)
  have HX := Lib.hid hx1
  have HB3 := Lib.hid (HB2.out.trans (hb3'.mono hb2))
  clear HB2 c0 c1 c2 c3 c4 hb3' hx1
  have c0 := HA1.out.cell 0 rfl
  have c1 := HA1.out.cell 1 rfl
  have c2 := HA1.out.cell 2 rfl
  have c3 := HA1.out.cell 3 rfl
  have c4 := HA1.out.cell 4 rfl
  go_upto_region 5 with (go_at_call 51; refine (tgetC HV.out).mono ?_; rintro e w4 ⟨y, rfl, hy, hb4⟩)
  have hb4' := hb4.alloc hb4.size (.cells #[.int .i64 y.k, .int .i64 y.n, .string y.s, .slice y.pl y.nl y.cl, .slice y.pm y.nm y.cm] 25)
  obtain ⟨W4, hW4⟩ : ∃ W4, w4.alloc (.cells #[.int .i64 y.k, .int .i64 y.n, .string y.s, .slice y.pl y.nl y.cl, .slice y.pm y.nm y.cm] 25) = W4 := ⟨_, rfl⟩
  rw [hW4] at hb4' ⊢
  clear hW4 hy hb4
  have hz3 := hA3.lt
  have hb3 := HB3.out.size
  have HA1 := HA1.out.under hb4' (by omega)
  have HA2 := HA2.out.under hb4' (by omega)
  have HA3 := hA3.under hb4' hz3
  have HV := Lib.hid (HV.out.under hb4' (Nat.le_refl _))
  have HU := Lib.hid (HU.out.under hb4' (Nat.le_refl _))
  have HX := Lib.hid (HX.out.under hb4' (Nat.le_refl _))
  have hz4 := hb4'.size
  have HB4 := Lib.hid (HB3.out.trans (hb4'.mono hb3))
  obtain ⟨B, hB⟩ : ∃ B, W3.heap.size = B := ⟨_, rfl⟩
  rw [hB] at HV HU HX hz3 hz4 hb3
  clear HB3 c0 c1 c2 c3 c4 hb4' hA3 hB
  have q1 : g1 < B := by omega
  have q2 : g2 < B := by omega
  have q3 : g3 < B := by omega
  have c0 := HA1.cell 0 rfl
  have c1 := HA1.cell 1 rfl
  have c2 := HA1.cell 2 rfl
  have c3 := HA1.cell 3 rfl
  have c4 := HA1.cell 4 rfl
  have d0 := HA2.cell 0 rfl
  have d1 := HA2.cell 1 rfl
  have d2 := HA2.cell 2 rfl
  have d3 := HA2.cell 3 rfl
  have d4 := HA2.cell 4 rfl
  have f0 := HA3.cell 0 rfl
  have f1 := HA3.cell 1 rfl
  have f2 := HA3.cell 2 rfl
  have f3 := HA3.cell 3 rfl
  have f4 := HA3.cell 4 rfl
  have HZ := Lib.hid hz4
  have HB := Lib.hid hb3
  clear HA1 HA2 HA3 hz1 hz2 hz3 hz4 hg1 hg2 hg3 hb2 hb3
  have hfm := field_mem
  have HXN := hxn
  have hxn := hxn.out
  go_region_held3 (fun w' => Below B W4 w' ∧ ∀ b o, b < B → w'.cell? ⟨b, o, none⟩ = W4.cell? ⟨b, o, none⟩)
    (first | exact KB.mk (Below.refl _ _).drew | exact hbk)
    (first
      | (go_at_call 35; refine (tsame (by assumption) HZ HV HU).mono ?_; rintro e w5 ⟨rfl, hbk⟩)
      | (go_at_call 17; refine (tsort (by assumption) HZ HV).mono ?_; rintro e w5 ⟨q, rfl, HQ, hbk⟩)
      | (go_at_call 31; refine (tsame5 (by assumption) HZ HQ HU).mono ?_; rintro e w5 ⟨rfl, hbk⟩)
      | (go_at_call 16; refine (tcount (by assumption) HZ HV).mono ?_; rintro e w5 ⟨rfl, hbk⟩)
      | (go_at_call 37; refine (twith (by assumption) HZ HV HX HXN).mono ?_; rintro e w5 ⟨p, c, rfl, hbk⟩)
      | (go_at_call 38; refine (twithout (by assumption) HZ HV).mono ?_; rintro e w5 ⟨p, c, rfl, hbk⟩))
  go_wp2_with fail
  go_ret
  exact ⟨rfl, KB.fin (by assumption) HB4.out HB.out⟩
end Go.Proofs.Ythgkgjcnmahacaa
end

section
/- A value of JSON that came in reads as a tree. -/
set_option linter.unusedSimpArgs false
set_option linter.unusedVariables false
set_option maxRecDepth 100000
namespace Go.Proofs.Ythgkgjcnmahacaa
open Go Go.RowKit Go.ChangeShapes Go.WideShapes Go.Deep

section
variable {H : Type} {enc : TypeId × Value → H} {W : World} {base b0 : Nat} {spare : Nat → Bool} {held : Bool}
theorem cel1 : Try.prog.cellsOf 2 = 1 := by kernel_rfl
theorem cel2 : Try.prog.cellsOf 3 = 1 := by kernel_rfl
theorem cel3 : Try.prog.cellsOf 9 = 1 := by kernel_rfl
theorem cel4 : Try.prog.cellsOf 22 = 1 := by kernel_rfl
theorem cel5 : Try.prog.cellsOf 23 = 1 := by kernel_rfl

theorem weights_string {t : TypeId} {s : ByteArray} {R : Nat} (h : ∀ n ∈ (DataW.lit (H := H) (.string s.data.toList)).weights Try.prog t, n ≤ R) : s.size ≤ R := by
  have := h s.data.toList.length (by simp [DataW.weights])
  simpa using this

theorem open_val : ∀ (fuel : Nat) (cs : List Value) (x : DataW H × List MemPlace), DataW.trod enc Try.prog W base spare held fuel 25 cs = some x →
    ∃ r t, cs = encV r ∧ TreeOf W W.heap.size t r ∧ ((∀ n ∈ x.1.weights Try.prog 25, n ≤ 140737488351232) → t.Ok) := by
  intro fuel
  induction fuel using Nat.strongRecOn with
  | ind fuel ih =>
    intro cs x h
    obtain ⟨y0, y1, y2, y3, y4, n, rfl, hx1, hlen, t0, t1, t2, t3, t4⟩ := trodF5 Try.underlying25 h
    rw [cellsV] at hlen
    obtain ⟨c0, c1, c2, c3, c4, rfl⟩ : ∃ c0 c1 c2 c3 c4, cs = [c0, c1, c2, c3, c4] := by
      match cs, hlen with
      | [a, b, c, d, e], _ => exact ⟨a, b, c, d, e, rfl⟩
    rw [hx1]
    dsimp only at t0 t1 t2 t3 t4
    rw [cel2] at t0
    rw [cel1] at t1
    rw [cel3] at t2
    rw [cel4] at t3
    rw [cel5] at t4
    simp only [List.drop_zero, List.drop_succ_cons, List.take_succ_cons, List.take_zero] at t0 t1 t2 t3 t4
    obtain ⟨k, e0, f0, w0⟩ := DataW.trod_int Try.underlying3 t0
    obtain ⟨n', e1, f1, w1⟩ := DataW.trod_int Try.underlying2 t1
    obtain ⟨s, e2, f2, w2⟩ := DataW.trod_string Try.underlying9 t2
    simp only [List.cons.injEq, and_true] at e0 e1 e2
    subst e0 e1 e2 f0 f1 f2
    obtain ⟨pl, nl, cl, rs, e3, hr3, hd3⟩ := open_list (Q := fun (r : RV) (d : DataW H) => ∃ t, TreeOf W W.heap.size t r ∧ ((∀ n ∈ d.weights Try.prog 25, n ≤ 140737488351232) → t.Ok)) Try.underlying22 cellsV codecV t3
      (fun m hm cs y hy => by
        obtain ⟨r, t, h1, h2⟩ := ih m (by omega) cs y hy
        exact ⟨r, h1, t, h2⟩)
    obtain ⟨pm, nm, cm, rms, e4, hr4, hd4⟩ := open_list (Q := fun (r : RM) (d : DataW H) => ∃ t, TreeOf W W.heap.size t r.v ∧ ((∀ n ∈ d.weights Try.prog 90, n ≤ 140737488351232) → r.name.size ≤ 140737488351232 ∧ t.Ok)) Try.underlying23 cellsM codecM t4
      (fun m hm cs y hy => by
        obtain ⟨z0, z1, j, rfl, hy1, hlen, u0, u1⟩ := trodF2 Try.underlying90 hy
        rw [cellsM] at hlen
        obtain ⟨a0, a1, a2, a3, a4, a5, rfl⟩ : ∃ a0 a1 a2 a3 a4 a5, cs = [a0, a1, a2, a3, a4, a5] := by
          match cs, hlen with
          | [a, b, c, d, e, f], _ => exact ⟨a, b, c, d, e, f, rfl⟩
        rw [hy1]
        dsimp only at u0 u1
        rw [cel3] at u0
        rw [cellsV] at u1
        simp only [List.drop_zero, List.drop_succ_cons, List.take_succ_cons, List.take_zero] at u0 u1
        obtain ⟨nm, g0, g1, g2⟩ := DataW.trod_string Try.underlying9 u0
        simp only [List.cons.injEq, and_true] at g0
        subst g0 g1
        obtain ⟨r, t, h1, h2, h3⟩ := ih j (by omega) _ _ u1
        refine ⟨⟨nm, r⟩, by rw [h1]; rfl, t, h2, fun hw => ⟨weights_string (weights_struct Try.underlying90 hw (i := 0) rfl rfl), h3 (weights_struct Try.underlying90 hw (i := 1) rfl rfl)⟩⟩)
    simp only [List.cons.injEq, and_true] at e3 e4
    subst e3 e4
    have nl_eq : nl = rs.length := by
      obtain ⟨_, _, e, _⟩ := hr3
      simp only [Value.slice.injEq] at e; exact e.2.1
    have nm_eq : nm = rms.length := by
      obtain ⟨_, _, e, _⟩ := hr4
      simp only [Value.slice.injEq] at e; exact e.2.1
    have hL : ∀ i, i < rs.length → ∃ t : JV, ∀ q, rs[i]? = some q → TreeOf W W.heap.size t q ∧ ((∀ n ∈ y3.1.weights Try.prog 22, n ≤ 140737488351232) → t.Ok) := by
      intro i hi
      obtain ⟨q, hq⟩ : ∃ q, rs[i]? = some q := ⟨_, List.getElem?_eq_getElem hi⟩
      rcases hd3 with ⟨rfl, _⟩ | ⟨es, sp, h1, h2, h3⟩
      · simp at hi
      · obtain ⟨d, hd, t, ht1, ht2⟩ := h3 i q hq
        refine ⟨t, fun q' hq' => ?_⟩
        rw [hq] at hq'
        cases hq'
        refine ⟨ht1, fun hw => ht2 ?_⟩
        rw [h1] at hw
        exact (weights_slice Try.underlying22 hw).2 d (List.mem_of_getElem? hd)
    have hM : ∀ i, i < rms.length → ∃ p : ByteArray × JV, ∀ q, rms[i]? = some q → p.1 = q.name ∧ TreeOf W W.heap.size p.2 q.v ∧ ((∀ n ∈ y4.1.weights Try.prog 23, n ≤ 140737488351232) → p.1.size ≤ 140737488351232 ∧ p.2.Ok) := by
      intro i hi
      obtain ⟨q, hq⟩ : ∃ q, rms[i]? = some q := ⟨_, List.getElem?_eq_getElem hi⟩
      rcases hd4 with ⟨rfl, _⟩ | ⟨es, sp, h1, h2, h3⟩
      · simp at hi
      · obtain ⟨d, hd, t, ht1, ht2⟩ := h3 i q hq
        refine ⟨(q.name, t), fun q' hq' => ?_⟩
        rw [hq] at hq'
        cases hq'
        refine ⟨rfl, ht1, fun hw => ht2 ?_⟩
        rw [h1] at hw
        exact (weights_slice Try.underlying23 hw).2 d (List.mem_of_getElem? hd)
    obtain ⟨ts, hts, hts2⟩ := list_of rs.length hL
    obtain ⟨ps, hps, hps2⟩ := list_of rms.length hM
    refine ⟨⟨k, n', s, pl, nl, cl, pm, nm, cm⟩, .mk k n' s ts ps, rfl, ?_, fun hw => ?_⟩
    · exact TreeOf.mk (r := ⟨k, n', s, pl, nl, cl, pm, nm, cm⟩) hr3 hts (fun i t q h1 h2 => (hts2 i t h1 q h2).1) hr4 hps (fun i p q h1 h2 => (hps2 i p h1 q h2).1) (fun i p q h1 h2 => (hps2 i p h1 q h2).2.1)
    · have v2 := weights_string (weights_struct Try.underlying25 hw (i := 2) rfl rfl)
      have v3 : ∀ n ∈ y3.1.weights Try.prog 22, n ≤ 140737488351232 := weights_struct Try.underlying25 hw (i := 3) rfl rfl
      have v4 : ∀ n ∈ y4.1.weights Try.prog 23, n ≤ 140737488351232 := weights_struct Try.underlying25 hw (i := 4) rfl rfl
      refine .mk w0 w1 v2 ?_ ?_ (fun i x hx => ?_) (fun i p hp => ?_) (fun i p hp => ?_)
      · rcases hd3 with ⟨rfl, _⟩ | ⟨es, sp, h1, h2, _⟩
        · rw [hts]; simp
        · rw [h1] at v3
          have := (weights_slice Try.underlying22 v3).1
          rw [bytesV] at this
          omega
      · rcases hd4 with ⟨rfl, _⟩ | ⟨es, sp, h1, h2, _⟩
        · rw [hps]; simp
        · rw [h1] at v4
          have := (weights_slice Try.underlying23 v4).1
          rw [bytesM] at this
          omega
      · obtain ⟨q, hq⟩ : ∃ q, rs[i]? = some q := ⟨_, List.getElem?_eq_getElem (by have := (List.getElem?_eq_some_iff.1 hx).1; omega)⟩
        exact (hts2 i x hx q hq).2 v3
      · obtain ⟨q, hq⟩ : ∃ q, rms[i]? = some q := ⟨_, List.getElem?_eq_getElem (by have := (List.getElem?_eq_some_iff.1 hp).1; omega)⟩
        exact ((hps2 i p hp q hq).2.2 v4).1
      · obtain ⟨q, hq⟩ : ∃ q, rms[i]? = some q := ⟨_, List.getElem?_eq_getElem (by have := (List.getElem?_eq_some_iff.1 hp).1; omega)⟩
        exact ((hps2 i p hp q hq).2.2 v4).2

theorem open_value {v : Value} {d : DataW H} {p : List MemPlace} (hval : Value.okWide Try.prog W .any b0 25 v) (h : DataW.Trod enc Try.prog W base spare held 25 v d p) :
    ∃ r t, v = RV.val r ∧ TreeOf W W.heap.size t r ∧ ((∀ n ∈ d.weights Try.prog 25, n ≤ 140737488351232) → t.Ok) := by
  obtain ⟨cs, rfl, hsz⟩ := okWide_struct Try.underlying25 hval
  obtain ⟨fuel, hf⟩ := h
  obtain ⟨r, t, h1, h2, h3⟩ := open_val fuel _ _ hf
  refine ⟨r, t, ?_, h2, h3⟩
  have : cs = (encV r).toArray := by
    apply Array.ext'
    simpa [Value.cells] using h1
  rw [this]
  rfl
end
#print axioms open_value
end Go.Proofs.Ythgkgjcnmahacaa
end

section
set_option linter.unusedSimpArgs false
set_option linter.unusedVariables false
namespace Go.Proofs.Ythgkgjcnmahacaa
open Go.RowKit

theorem ret_bool {a b : Bool} (h : a = b) : Ending.returned (.bool a) = .returned (.bool b) := by rw [h]

/-- May something become of an object behind something else? -/
def mayB (was what : Int) : Bool := if what = 1 then was == 0 else if what = 2 ∨ what = 3 then was != 3 else false

set_option maxHeartbeats 400000 in
theorem may_any (was what : Int) (w : World) :
    Calls Try.prog 90 #[.int .i64 was, .int .i64 what] w fun e w' => e = .returned (.bool (mayB was what)) ∧ w = w' := by
  go_enter Try.func90, Try.ntmps90
  go_wp2
  all_goals (go_ret; refine ⟨ret_bool ?_, rfl⟩; simp_all [mayB])

/-- An entry of a trail. -/
structure En where
  seq : Int
  id : ByteArray
  what : Int
deriving DecidableEq

/-- Its numbers fit, its text has a length that may be. -/
def En.ok (e : En) : Prop := (Lit.int .i64 e.seq).wf = true ∧ e.id.size ≤ maxLen ∧ (Lit.int .i64 e.what).wf = true

theorem toList_beq (a b : ByteArray) : (a.toList == b.toList) = decide (a = b) := by
  rw [ByteArray.toList_eq, ByteArray.toList_eq]
  obtain ⟨⟨x⟩⟩ := a
  obtain ⟨⟨y⟩⟩ := b
  by_cases h : x = y
  · simp [h]
  · simp [h]

def En.eqv (a b : En) : Bool := a.seq == b.seq && a.id.toList == b.id.toList && a.what == b.what

/-- An entry, as it lies in three cells. -/
def enAt (w : World) (b o : Nat) (e : Option En) : Prop := ∃ x, e = some x ∧ w.cell? ⟨b, o, none⟩ = some (.int .i64 x.seq) ∧ w.cell? ⟨b, o + 1, none⟩ = some (.string x.id) ∧ w.cell? ⟨b, o + 2, none⟩ = some (.int .i64 x.what)

/-- A slice of entries, as it lies in memory below block B. -/
def RdE (w : World) (B : Nat) (v : Value) (es : List En) : Prop :=
  (∀ e ∈ es, e.ok) ∧ ∃ (p : Option Addr) (cap : Nat), v = .slice p es.length cap ∧ es.length ≤ cap ∧ cap ≤ maxLen ∧ (p = none → cap = 0) ∧
    ∀ a, p = some a → 0 < es.length → ∃ b o, a = ⟨b, o, none⟩ ∧ b < B ∧ ∀ i, i < es.length → enAt w b (o + i * 3) es[i]?

def sameE : List En → List En → Bool
  | [], [] => true
  | a :: l, b :: m => a.eqv b && sameE l m
  | _, _ => false

theorem slice_at {p : Option Addr} {cap n k B : Nat} {C : Nat → Nat → Nat → Prop} (h0 : p = none → cap = 0)
    (h : ∀ a, p = some a → 0 < n → ∃ b o, a = ⟨b, o, none⟩ ∧ b < B ∧ ∀ i, i < n → C b o i) (hk : k < n ∧ n ≤ cap) : ∃ b o, p = some ⟨b, o, none⟩ ∧ b < B ∧ ∀ i, i < n → C b o i := by
  cases p with
  | none => have := h0 rfl; omega
  | some a => obtain ⟨b, o, rfl, hb, hc⟩ := h a rfl (by omega); exact ⟨b, o, rfl, hb, hc⟩

theorem guardE : Try.prog.eqGuardType Try.prog.depth 48 = false := by kernel_rfl
theorem stoodE : Try.prog.stoodInHeld 48 = false := by kernel_rfl
theorem eqlE (a b : Int) (s t : ByteArray) (c d : Int) (w : World) : (Go.binOp .eql 48 (.agg #[.int .i64 a, .string s, .int .i64 c]) (.agg #[.int .i64 b, .string t, .int .i64 d])).run Try.prog w =
    .ok (.bool (a == b && s.toList == t.toList && c == d)) w := by
  have h1 := stoodE
  rw [run_eql_struct]
  simp [go_sem, h1, Try.underlying48]
  by_cases e1 : a = b <;> by_cases e2 : s.toList = t.toList <;> by_cases e3 : c = d <;> simp [e1, e2, e3]
theorem neqE (a b : Int) (s t : ByteArray) (c d : Int) (w : World) : (Go.binOp .neq 48 (.agg #[.int .i64 a, .string s, .int .i64 c]) (.agg #[.int .i64 b, .string t, .int .i64 d])).run Try.prog w =
    .ok (.bool (!(a == b && s.toList == t.toList && c == d))) w := by
  have h1 := stoodE
  rw [run_neq_struct]
  simp [go_sem, h1, Try.underlying48]
  by_cases e1 : a = b <;> by_cases e2 : s.toList = t.toList <;> by_cases e3 : c = d <;> simp [e1, e2, e3]

theorem sameE_snoc {l m : List En} {k : Nat} {x y : En} (hx : l[k]? = some x) (hy : m[k]? = some y) : sameE (l.take (k + 1)) (m.take (k + 1)) = (sameE (l.take k) (m.take k) && x.eqv y) := by
  induction k generalizing l m with
  | zero => cases l <;> cases m <;> simp_all [sameE]
  | succ k ih => 
    cases l with
    | nil => simp at hx
    | cons a l => cases m with
      | nil => simp at hy
      | cons b m => simp only [List.getElem?_cons_succ] at hx hy; simp only [List.take_succ_cons, sameE]; rw [ih hx hy, Bool.and_assoc]
theorem sameE_false {l m : List En} {k : Nat} {x y : En} (hx : l[k]? = some x) (hy : m[k]? = some y) (h : x.eqv y = false) : sameE l m = false := by
  induction k generalizing l m with
  | zero => cases l <;> cases m <;> simp_all [sameE]
  | succ k ih =>
    cases l with
    | nil => simp at hx
    | cons a l => cases m with
      | nil => simp at hy
      | cons b m => simp only [List.getElem?_cons_succ] at hx hy; simp only [sameE]; rw [ih hx hy, Bool.and_false]
theorem sameE_len {l m : List En} (h : l.length ≠ m.length) : sameE l m = false := by
  induction l generalizing m with
  | nil => cases m <;> simp_all [sameE]
  | cons a l ih => cases m with
    | nil => simp [sameE]
    | cons b m => simp only [sameE]; rw [ih (by simpa using h), Bool.and_false]

set_option maxHeartbeats 400000 in
theorem sameEntries_any (w : World) (B : Nat) (v u : Value) (l m : List En) (hv : RdE w B v l) (hu : RdE w B u m) :
    Calls Try.prog 69 #[v, u] w fun e w' => e = .returned (.bool (sameE l m)) ∧ ∃ n, w' = w.drewN n := by
  obtain ⟨_, p, c, rfl, hlc, hcm, hp0, hp⟩ := hv
  obtain ⟨_, q, d, rfl, hmd, hdm, hq0, hq⟩ := hu
  unfold maxLen at hcm hdm
  by_cases hlen : l.length = m.length
  · have hb : ((l.length : Int) != (m.length : Int)) = false := by simp [hlen]
    have hle1 : l.length ≤ m.length := by omega
    have hle2 : m.length ≤ l.length := by omega
    have HL := Lib.hid hlen
    clear hlen
    go_enter Try.func69, Try.ntmps69
    go_wp2
    go_loopw [5] (fun i wr => ∃ k : Nat, k ≤ l.length ∧ i = .int .i64 k ∧ sameE (l.take k) (m.take k) = true ∧ ∃ n, wr = w.drewN n) (fun i _ => l.length - (intOf i).toNat)
    case atStart => exact ⟨0, Nat.zero_le _, rfl, by simp [sameE], 0, rfl⟩
    case round =>
      obtain ⟨k, hk, rfl, hsm, nr, rfl⟩ := hrel
      by_cases hlt : k < l.length
      · obtain ⟨b1, o1, rfl, hb1, hc1⟩ := slice_at (k := k) hp0 hp (by omega)
        obtain ⟨b2, o2, rfl, hb2, hc2⟩ := slice_at (k := k) hq0 hq (by omega)
        have hkm : k < m.length := by omega
        obtain ⟨x, hx, g10, g11, g12⟩ := hc1 k hlt
        obtain ⟨y, hy, g20, g21, g22⟩ := hc2 k (by omega)
        have HX := Lib.hid hx
        have HY := Lib.hid hy
        clear hx hy
        clear hp hq hc1 hc2 hp0 hq0
        have hg := guardE
        have hq := fun W => neqE x.seq y.seq x.id y.id x.what y.what W
        cases hxy : x.eqv y with
        | true =>
          have hq2 : (!(x.seq == y.seq && x.id.toList == y.id.toList && x.what == y.what)) = false := by unfold En.eqv at hxy; rw [hxy]; rfl
          have HS := Lib.hid (sameE_snoc HX.out HY.out)
          rw [hsm, hxy] at HS
          clear hxy
          go_wp2
          go_quiet (fail)
          go_wp2
          go_roundw
          case rel => exact ⟨k + 1, by omega, by go_num, HS.out, _, rfl⟩
          case measure => simp [intOf]; omega
        | false =>
          have hq2 : (!(x.seq == y.seq && x.id.toList == y.id.toList && x.what == y.what)) = true := by unfold En.eqv at hxy; rw [hxy]; rfl
          have HS := Lib.hid (sameE_false HX.out HY.out hxy)
          clear hxy
          go_wp2
          go_quiet (fail)
          go_wp2
          go_ret
          exact ⟨ret_bool HS.out.symm, _, World.drewN_drewN _ _ _⟩
      · go_wp2
        go_ret
        refine ⟨ret_bool ?_, _, rfl⟩
        have e := HL.out
        rw [List.take_of_length_le (by omega), List.take_of_length_le (by omega)] at hsm
        exact hsm.symm
  · have hb : ((l.length : Int) != (m.length : Int)) = true := by simp; omega
    go_enter Try.func69, Try.ntmps69
    go_wp2
    go_ret
    exact ⟨ret_bool (sameE_len hlen).symm, 0, rfl⟩
theorem eqv_eq (a b : En) : a.eqv b = decide (a = b) := by
  obtain ⟨s, i, x⟩ := a
  obtain ⟨t, j, y⟩ := b
  unfold En.eqv
  rw [toList_beq]
  by_cases h1 : s = t <;> by_cases h2 : i = j <;> by_cases h3 : x = y <;> simp [h1, h2, h3]
theorem sameE_eq (l m : List En) : sameE l m = decide (l = m) := by
  induction l generalizing m with
  | nil => cases m <;> simp [sameE]
  | cons a l ih => cases m with
    | nil => simp [sameE]
    | cons b m => simp only [sameE, ih, eqv_eq]; by_cases h1 : a = b <;> by_cases h2 : l = m <;> simp [h1, h2]

theorem same_any (w : World) (B : Nat) (v u : Value) (l m : List En) (hv : RdE w B v l) (hu : RdE w B u m) :
    Calls Try.prog 69 #[v, u] w fun e w' => e = .returned (.bool (decide (l = m))) ∧ ∃ n, w' = w.drewN n := by
  rw [← sameE_eq]
  exact sameEntries_any w B v u l m hv hu
end Go.Proofs.Ythgkgjcnmahacaa
end

section
set_option linter.unusedSimpArgs false
set_option linter.unusedVariables false
namespace Go.Proofs.Ythgkgjcnmahacaa
open Go.RowKit Go.OpenShut

/-- What became last of an id. -/
def lastW (l : List En) (id : ByteArray) : Int := l.foldl (fun a e => if e.id = id then e.what else a) 0
theorem lastW_snoc (l : List En) (e : En) (id : ByteArray) : lastW (l ++ [e]) id = if e.id = id then e.what else lastW l id := by simp [lastW]

/-- Is the entry of place k as it must be? -/
def okAt (l : List En) (floor : Int) (k : Nat) : Bool := match l[k]? with
  | some e => e.seq == floor + 1 + k && mayB (lastW (l.take k) e.id) e.what
  | none => true

def headB (n : Nat) (floor seq : Int) : Bool := decide (0 ≤ floor ∧ floor ≤ seq ∧ seq ≤ 9007199254740991 ∧ seq - floor = n)

def rightB (l : List En) (floor seq : Int) : Bool := headB l.length floor seq && (List.range l.length).all (okAt l floor)

theorem rightB_no {l : List En} {floor seq : Int} (h : headB l.length floor seq = false) : rightB l floor seq = false := by simp [rightB, h]
theorem rightB_yes {l : List En} {floor seq : Int} (h : headB l.length floor seq = true) (ha : ∀ k, k < l.length → okAt l floor k = true) : rightB l floor seq = true := by
  simp only [rightB, h, Bool.true_and, List.all_eq_true, List.mem_range]
  exact ha
theorem rightB_bad {l : List En} {floor seq : Int} {k : Nat} (hk : k < l.length) (h : okAt l floor k = false) : rightB l floor seq = false := by
  unfold rightB
  rw [Bool.and_eq_false_iff]
  right
  rw [Bool.eq_false_iff]
  intro ha
  rw [List.all_eq_true] at ha
  have := ha k (by simpa using hk)
  rw [h] at this
  cases this

set_option maxHeartbeats 1000000 in
theorem refRight_head (w : World) (B : Nat) (v : Value) (l : List En) (floor seq : Int) (hv : RdE w B v l) (hf : (Lit.int .i64 floor).wf = true) (hs : (Lit.int .i64 seq).wf = true) (hh : headB l.length floor seq = false) :
    Calls Try.prog 72 #[v, .int .i64 floor, .int .i64 seq] w fun e w' => e = .returned (.bool (rightB l floor seq)) ∧ ∃ n, w' = w.drewN n := by
  rw [rightB_no hh]
  obtain ⟨_, p, c, rfl, hlc, hcm, hp0, hp⟩ := hv
  unfold maxLen at hcm
  have b1 := bounds_i64 hf
  have b2 := bounds_i64 hs
  have hd : 0 ≤ floor → floor ≤ seq → seq ≤ 9007199254740991 → ((seq - floor != (l.length : Int)) = true) := by
    intro h1 h2 h3
    unfold headB at hh
    simp only [decide_eq_false_iff_not] at hh
    rw [bne_iff_ne]
    intro h4
    exact hh ⟨h1, h2, h3, h4⟩
  clear hh hp hp0
  go_enter Try.func72, Try.ntmps72
  go_wp2_with fail
  all_goals (go_ret; exact ⟨rfl, 0, rfl⟩)

theorem okAt_of {l : List En} {floor : Int} {k : Nat} {x : En} (hx : l[k]? = some x) : okAt l floor k = (x.seq == floor + 1 + k && mayB (lastW (l.take k) x.id) x.what) := by simp [okAt, hx]
theorem okAt_bad {l : List En} {floor : Int} {k : Nat} {x : En} (hx : l[k]? = some x) (h : x.seq ≠ floor + 1 + k ∨ x.what < 1 ∨ 3 < x.what) : okAt l floor k = false := by
  rw [okAt_of hx]
  rcases h with h | h | h
  · simp [h]
  · simp [mayB, show ¬ x.what = 1 by omega, show ¬ x.what = 2 by omega, show ¬ x.what = 3 by omega]
  · simp [mayB, show ¬ x.what = 1 by omega, show ¬ x.what = 2 by omega, show ¬ x.what = 3 by omega]
theorem lastW_take {l : List En} {j : Nat} {y : En} (hy : l[j]? = some y) (id : ByteArray) : lastW (l.take (j + 1)) id = if y.id = id then y.what else lastW (l.take j) id := by
  rw [List.take_add_one, hy]
  exact lastW_snoc _ _ _
theorem lastW_wf {l : List En} (h : ∀ e ∈ l, e.ok) (id : ByteArray) : (Lit.int .i64 (lastW l id)).wf = true := by
  suffices ∀ (l : List En) (a : Int), (∀ e ∈ l, e.ok) → (Lit.int .i64 a).wf = true → (Lit.int .i64 (l.foldl (fun a e => if e.id = id then e.what else a) a)).wf = true from this l 0 h (by decide)
  intro l
  induction l with
  | nil => intro a _ ha; exact ha
  | cons e l ih =>
    intro a h ha
    simp only [List.foldl_cons]
    refine ih _ (fun x hx => h x (by simp [hx])) ?_
    split
    · exact (h e (by simp)).2.2
    · exact ha
theorem get_ok {l : List En} {k : Nat} {x : En} (h : ∀ e ∈ l, e.ok) (hx : l[k]? = some x) : x.ok := h x (List.mem_of_getElem? hx)

end Go.Proofs.Ythgkgjcnmahacaa
end

section
set_option linter.unusedSimpArgs false
set_option linter.unusedVariables false
namespace Go.Proofs.Ythgkgjcnmahacaa
open Go.RowKit

/-- What is returned is a slice of the call's own that reads as xs; nothing that was has turned. -/
def OwnRet {α : Type} (w : World) (t : TypeId) (enc : α → List Value) (sz : Nat) (xs : List α) (e : Ending) (w' : World) : Prop :=
  ∃ u, e = .returned u ∧ Own w' w.heap.size t enc sz u xs ∧ Below w.heap.size w w'

theorem infoE : (Try.prog.info? 48).map (fun i => (i.zero, i.size, i.bytes)) = some (some (.agg #[.int .i64 0, .string ByteArray.empty, .int .i64 0]), 3, 32) := by kernel_rfl

set_option maxRecDepth 100000 in
set_option maxHeartbeats 400000 in
theorem cloneE_any {α : Type} {enc : α → List Value} (C : Codec enc 3) (w : World) (v : Value) (xs : List α) (hv : Rd w w.heap.size enc 3 v xs) (hsz : xs.length * 32 ≤ 140737488355328) :
    Calls Try.prog 99 #[v] w (OwnRet w 48 enc 3 xs) := by
  obtain ⟨p, cap, rfl, hlc, hcm, hp0, hp⟩ := hv
  have HS := Lib.hid hsz
  have HC := Lib.hid hcm
  clear hsz hcm
  cases p with
  | none =>
    have h0 : xs.length = 0 := by have := hp0 rfl; omega
    obtain rfl := List.eq_nil_of_length_eq_zero h0
    obtain rfl : cap = 0 := hp0 rfl
    have hnil : ∀ W n, (Go.binOp .eql 33 (.slice none n 0) (.slice none 0 0)).run Try.prog W = .ok (.bool true) W := fun W n => Lib.run_eql_slice_nil W 33 48 none n 0 0 0 Try.underlying33
    clear hp hp0 h0 hlc
    go_enter Try.func99, Try.ntmps99
    go_wp2
    go_ret
    exact ⟨_, rfl, Own.nil w _ _, Below.refl _ _⟩
  | some a =>
    obtain ⟨i0, hi, hz0, hz1, hz2⟩ := info_parts infoE
    have hnil : ∀ W n c, (Go.binOp .eql 33 (.slice (some a) n c) (.slice none 0 0)).run Try.prog W = .ok (.bool false) W := fun W n c => Lib.run_eql_slice_nil W 33 48 (some a) n c 0 0 Try.underlying33
    have hO := World.ownsRow_made (base := w.heap.size) (e := 48) (size := 3) w #[] 0 (Nat.le_refl _) (Nat.zero_le _) rfl
    have hN : ∀ ob j u, (cellsOf enc xs)[j]? = some u → (w.alloc ob).cell? (a.add j) = some u := by
      intro ob j u hu
      by_cases h0 : 0 < xs.length
      · obtain ⟨b, o, rfl, hb, hr⟩ := hp a rfl h0
        exact (hr.below ((Below.refl w.heap.size w).alloc (Nat.le_refl _) ob) hb).news C j u hu
      · have : xs = [] := List.eq_nil_of_length_eq_zero (by omega)
        subst this
        simp [cellsOf] at hu
    clear hp hp0
    have hL := cellsOf_len C xs
    have h1 := cellsOf_one C xs
    have HK : Hid (0 + xs.length ≤ maxLen) := by have := HC.out; unfold Hid; omega
    have HY : Hid ((0 + xs.length) * 32 ≤ 140737488355328) := by have := HS.out; unfold Hid; omega
    go_enter Try.func99, Try.ntmps99
    go_wp2_with (at_builtin; refine wpList_append_own _ rfl _ _ 33 rfl w.heap.size 48 i0 _ 3 32 Try.underlying33 hi hz0 hz1 hz2 rfl (by decide) (.slice (some ⟨w.heap.size, 0, none⟩) 0 0) 0 [] rfl hO a xs.length cap (cellsOf enc xs) rfl hL (hN _) h1 HK.out HY.out (by simp) ?_; intro v1 w1 hown1 hg1 _)
    go_ret
    rw [Nat.zero_add, List.nil_append] at hown1
    exact ⟨v1, rfl, hown1, ((Below.refl w.heap.size w).alloc (Nat.le_refl _) _).grown hg1 (by simp) (fun k e => by cases e; exact Nat.le_refl _)⟩
end Go.Proofs.Ythgkgjcnmahacaa
end
