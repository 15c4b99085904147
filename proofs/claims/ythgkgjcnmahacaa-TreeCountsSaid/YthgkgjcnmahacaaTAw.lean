/- The law's answers that the document fixes: true. -/
import Derived.Test.YthgkgjcnmahacaaTAw0
import Derived.Test.YthgkgjcnmahacaaKit
set_option linter.unusedSimpArgs false
set_option linter.unusedVariables false
namespace Go.Proofs.Ythgkgjcnmahacaa
open Go.RowKit Go.OpenShut

theorem TreeOf.n_of {w : World} {B : Nat} {k n : Int} {s : ByteArray} {l : List JV} {m : List (ByteArray × JV)} {r : RV} (h : TreeOf w B (.mk k n s l m) r) : r.n = n := by
  cases h; rfl
theorem two_tree {w : World} {a b : ByteArray} {na nb : Int} {e : Ending} {w' : World} (h : MapRet w 0 [(a, numT na), (b, numT nb)] e w') :
    ∃ q : RV, e = .returned q.val ∧ TreeOf w' w'.heap.size (.mk 6 0 ⟨#[]⟩ [] [(a, numT na), (b, numT nb)]) q ∧ Below w.heap.size w w' := by
  obtain ⟨pm, nm, cm, rms, rfl, ho, hm, hb⟩ := h
  exact ⟨_, rfl, TreeOf.map ho hm (Nat.zero_le _), hb⟩

theorem tgetA {w : World} {v : RV} (h : TreeOf w w.heap.size tvT v) : Calls Try.prog 51 #[v.val, .string nA] w (fun e w' => ∃ x : RV, e = .returned (.tuple #[x.val, .bool true]) ∧ TreeOf w' w'.heap.size (numT 2) x ∧ Below w.heap.size w w') :=
  (get_any tvT v nA w h tv_ok).mono fun e w' ⟨x, b, he, hb, hx, hw⟩ => by
    rw [tv_a] at hb hx
    subst hb
    exact ⟨x, he, hx, hw⟩
theorem tgetC {w : World} {v : RV} (h : TreeOf w w.heap.size tvT v) : Calls Try.prog 51 #[v.val, .string nC] w (fun e w' => ∃ x : RV, e = .returned (.tuple #[x.val, .bool false]) ∧ TreeOf w' w'.heap.size JV.zero x ∧ Below w.heap.size w w') :=
  (get_any tvT v nC w h tv_ok).mono fun e w' ⟨x, b, he, hb, hx, hw⟩ => by
    rw [tv_c] at hb hx
    subst hb
    exact ⟨x, he, hx, hw⟩

/-- The members of a map. -/
theorem field_mem (k n : Int) (s : ByteArray) (pl pm : Option Addr) (nl cl nm cm : Nat) (w : World) : (Instr.field 25 (.agg #[.int .i64 k, .int .i64 n, .string s, .slice pl nl cl, .slice pm nm cm]) 4).run Try.prog w = .ok (.slice pm nm cm) w := by kernel_rfl
section
variable {B : Nat} {W w : World} (hk : KB B W w) (hz : Hid (B ≤ W.heap.size))
include hk hz
theorem KB.le : B ≤ w.heap.size := Nat.le_trans hz.out hk.1.size
theorem KB.tree {t : JV} {r : RV} (h : Hid (TreeOf W B t r)) : TreeOf w w.heap.size t r := h.out.under hk.1 (hk.le hz)
theorem KB.stepB {w' : World} (h : Below w.heap.size w w') : KB B W w' := KB.mk (hk.1.trans (h.mono (hk.le hz)))
theorem tsame {v u : RV} (h : Hid (TreeOf W B tvT v)) (h' : Hid (TreeOf W B twT u)) : Calls Try.prog 35 #[v.val, u.val] w (fun e w' => e = .returned (.bool true) ∧ KB B W w') :=
  (sameT_any _ tvT twT v u w (Nat.le_refl _) (hk.tree hz h) (hk.tree hz h') tv_ok tw_ok).mono fun e w' ⟨b, he, hb, hw⟩ => by
    rw [hb.2 tv_same] at he
    exact ⟨he, hk.stepB hz hw⟩
theorem tsort {v : RV} (h : Hid (TreeOf W B tvT v)) : Calls Try.prog 17 #[v.val] w (fun e w' => ∃ q : RV, e = .returned q.val ∧ Hid (TreeOf w' w'.heap.size twT q) ∧ KB B W w') :=
  (sort_any _ tvT v w (Nat.le_refl _) (hk.tree hz h) tv_ok).mono fun e w' ⟨u, hu, q, he, hq, hw⟩ => by
    rw [tv_sort hu] at hq
    exact ⟨q, he, Lib.hid (hq.tree), hk.stepB hz hw⟩
theorem tsame5 {q u : RV} (hq : Hid (TreeOf w w.heap.size twT q)) (h : Hid (TreeOf W B twT u)) : Calls Try.prog 31 #[q.val, u.val] w (fun e w' => e = .returned (.bool true) ∧ KB B W w') :=
  (same5_any _ twT twT q u w (Nat.le_refl _) hq.out (hk.tree hz h) tw_ok tw_ok).mono fun e w' ⟨b, he, hb, hw⟩ => by
    rw [hb.2 rfl] at he
    exact ⟨he, hk.stepB hz hw⟩
theorem tcount {v : RV} (h : Hid (TreeOf W B tvT v)) : Calls Try.prog 16 #[v.val] w (fun e w' => e = .returned (.int .i64 3) ∧ KB B W w') :=
  (countT_any _ tvT v w (Nat.le_refl _) (hk.tree hz h) tv_ok).mono fun e w' ⟨he, hw⟩ => by
    rw [tv_count] at he
    exact ⟨he, hk.stepB hz hw⟩
theorem twith {v x : RV} (h : Hid (TreeOf W B tvT v)) (h' : Hid (TreeOf W B (numT 2) x)) (hn : Hid (x.n = 2)) : Calls Try.prog 37 #[v.val, .string nC, .agg #[.int .i64 x.k, .int .i64 2, .string x.s, .slice x.pl x.nl x.cl, .slice x.pm x.nm x.cm]] w (fun e w' => ∃ p c, e = .returned (.agg #[.int .i64 6, .int .i64 0, .string ⟨#[]⟩, .slice none 0 0, .slice p 3 c]) ∧ KB B W w') := by
  rw [← hn.out]
  exact (with_any tvT (numT 2) v x nC w w.heap.size (Nat.le_refl _) (hk.tree hz h) tv_ok (hk.tree hz h') (by decide)).mono fun e w' hm => by
    obtain ⟨p, n, c, rms, he, ho, hms, hw⟩ := hm
    have := rd_nlen (ho.rd codecM)
    have h3 := hms.len
    rw [tv_with] at h3
    obtain rfl : n = 3 := by omega
    exact ⟨p, c, he, hk.stepB hz hw⟩
theorem twithout {v : RV} (h : Hid (TreeOf W B tvT v)) : Calls Try.prog 38 #[v.val, .string nA] w (fun e w' => ∃ p c, e = .returned (.agg #[.int .i64 6, .int .i64 0, .string ⟨#[]⟩, .slice none 0 0, .slice p 1 c]) ∧ KB B W w') :=
  (without_any tvT v nA w w.heap.size (Nat.le_refl _) (hk.tree hz h) tv_ok (by decide)).mono fun e w' hm => by
    obtain ⟨p, n, c, rms, he, ho, hms, hw⟩ := hm
    have := rd_nlen (ho.rd codecM)
    have h3 := hms.len
    rw [tv_without] at h3
    obtain rfl : n = 1 := by omega
    exact ⟨p, c, he, hk.stepB hz hw⟩
end

set_option maxRecDepth 100000 in
set_option maxHeartbeats 4000000 in
theorem tawake_any (w : World) : Calls Try.prog 14 #[] w fun e w' => e = .returned (.bool true) ∧ Below w.heap.size w w' := by
  have h1 : ∀ w, Calls Try.prog 50 #[.string ⟨#[98]⟩, .string ⟨#[97]⟩] w (fun e w' => ∃ q : RV, e = .returned q.val ∧ TreeOf w' w'.heap.size tvT q ∧ Below w.heap.size w w') := fun w =>
    (two_any ⟨#[98]⟩ ⟨#[97]⟩ 1 2 w rfl rfl (by decide) (by decide)).mono fun e w' h => two_tree h
  have h2 : ∀ w, Calls Try.prog 50 #[.string ⟨#[97]⟩, .string ⟨#[98]⟩] w (fun e w' => ∃ q : RV, e = .returned q.val ∧ TreeOf w' w'.heap.size twT q ∧ Below w.heap.size w w') := fun w =>
    (two_any ⟨#[97]⟩ ⟨#[98]⟩ 2 1 w rfl rfl (by decide) (by decide)).mono fun e w' h => two_tree h
  have H1 := Lib.hid h1
  have H2 := Lib.hid h2
  clear h1 h2
  go_enter Try.func14, Try.ntmps14
  go_upto_region 2 with (go_at_call 50; refine (H1.out _).mono ?_; rintro e w1 ⟨v, rfl, hv, hb1⟩)
  have hA1 : VAt (w1.alloc (.cells #[.int .i64 v.k, .int .i64 v.n, .string v.s, .slice v.pl v.nl v.cl, .slice v.pm v.nm v.cm] 25)) w1.heap.size v := heap_alloc_at rfl
  have hv1 := hv.under (w' := w1.alloc (.cells #[.int .i64 v.k, .int .i64 v.n, .string v.s, .slice v.pl v.nl v.cl, .slice v.pm v.nm v.cm] 25)) ((Below.refl _ _).alloc (Nat.le_refl _) _) (by simp : w1.heap.size ≤ (w1.alloc (.cells #[.int .i64 v.k, .int .i64 v.n, .string v.s, .slice v.pl v.nl v.cl, .slice v.pm v.nm v.cm] 25)).heap.size)
  have hb1' := hb1.alloc hb1.size (.cells #[.int .i64 v.k, .int .i64 v.n, .string v.s, .slice v.pl v.nl v.cl, .slice v.pm v.nm v.cm] 25)
  have hg1 := hb1.size
  obtain ⟨W1, hW1⟩ : ∃ W1, w1.alloc (.cells #[.int .i64 v.k, .int .i64 v.n, .string v.s, .slice v.pl v.nl v.cl, .slice v.pm v.nm v.cm] 25) = W1 := ⟨_, rfl⟩
  obtain ⟨g1, hgg⟩ : ∃ g, w1.heap.size = g := ⟨_, rfl⟩
  rw [hW1, hgg] at hA1
  rw [hW1] at hv1 hb1' ⊢
  rw [hgg] at hg1 ⊢
  clear hW1 hgg hv hb1
  go_upto_region 3 with (go_at_call 50; refine (H2.out _).mono ?_; rintro e w2 ⟨u, rfl, hu, hb2⟩)
  have hA2 : VAt (w2.alloc (.cells #[.int .i64 u.k, .int .i64 u.n, .string u.s, .slice u.pl u.nl u.cl, .slice u.pm u.nm u.cm] 25)) w2.heap.size u := heap_alloc_at rfl
  have hb2' := hb2.alloc hb2.size (.cells #[.int .i64 u.k, .int .i64 u.n, .string u.s, .slice u.pl u.nl u.cl, .slice u.pm u.nm u.cm] 25)
  have hu1 := hu.under (w' := w2.alloc (.cells #[.int .i64 u.k, .int .i64 u.n, .string u.s, .slice u.pl u.nl u.cl, .slice u.pm u.nm u.cm] 25)) ((Below.refl _ _).alloc (Nat.le_refl _) _) (by simp : w2.heap.size ≤ (w2.alloc (.cells #[.int .i64 u.k, .int .i64 u.n, .string u.s, .slice u.pl u.nl u.cl, .slice u.pm u.nm u.cm] 25)).heap.size)
  have hg2 := hb2.size
  obtain ⟨W2, hW2⟩ : ∃ W2, w2.alloc (.cells #[.int .i64 u.k, .int .i64 u.n, .string u.s, .slice u.pl u.nl u.cl, .slice u.pm u.nm u.cm] 25) = W2 := ⟨_, rfl⟩
  obtain ⟨g2, hgg⟩ : ∃ g, w2.heap.size = g := ⟨_, rfl⟩
  rw [hW2, hgg] at hA2
  rw [hW2] at hu1 hb2' ⊢
  rw [hgg] at hg2 ⊢
  clear hW2 hgg hu hb2
  have hz1 := hA1.lt
  have hA1 := hA1.under hb2' hz1
  have hv2 := hv1.under hb2' hb2'.size
  have HB2 := Lib.hid (hb1'.trans (hb2'.mono (by omega)))
  clear hv1 hb1' hb2'
  have HV := Lib.hid hv2
  have HU := Lib.hid hu1
  have c0 := hA1.cell 0 rfl
  have c1 := hA1.cell 1 rfl
  have c2 := hA1.cell 2 rfl
  have c3 := hA1.cell 3 rfl
  have c4 := hA1.cell 4 rfl
  have HA1 := Lib.hid hA1
  have HA2 := Lib.hid hA2
  clear hA1 hA2 hv2 hu1
  go_upto_region 4 with (go_at_call 51; refine (tgetA HV.out).mono ?_; rintro e w3 ⟨x, rfl, hx, hb3⟩)
  have hxn : Hid (x.n = 2) := TreeOf.n_of hx
  have hA3 : VAt (w3.alloc (.cells #[.int .i64 x.k, .int .i64 x.n, .string x.s, .slice x.pl x.nl x.cl, .slice x.pm x.nm x.cm] 25)) w3.heap.size x := heap_alloc_at rfl
  have hb3' := hb3.alloc hb3.size (.cells #[.int .i64 x.k, .int .i64 x.n, .string x.s, .slice x.pl x.nl x.cl, .slice x.pm x.nm x.cm] 25)
  have hx1 := hx.under (w' := w3.alloc (.cells #[.int .i64 x.k, .int .i64 x.n, .string x.s, .slice x.pl x.nl x.cl, .slice x.pm x.nm x.cm] 25)) ((Below.refl _ _).alloc (Nat.le_refl _) _) (by simp : w3.heap.size ≤ (w3.alloc (.cells #[.int .i64 x.k, .int .i64 x.n, .string x.s, .slice x.pl x.nl x.cl, .slice x.pm x.nm x.cm] 25)).heap.size)
  have hg3 := hb3.size
  obtain ⟨W3, hW3⟩ : ∃ W3, w3.alloc (.cells #[.int .i64 x.k, .int .i64 x.n, .string x.s, .slice x.pl x.nl x.cl, .slice x.pm x.nm x.cm] 25) = W3 := ⟨_, rfl⟩
  obtain ⟨g3, hgg⟩ : ∃ g, w3.heap.size = g := ⟨_, rfl⟩
  rw [hW3, hgg] at hA3
  rw [hW3] at hx1 hb3' ⊢
  rw [hgg] at hg3 ⊢
  clear hW3 hgg hx hb3
  have hz2 := HA2.out.lt
  have hb2 := HB2.out.size
  have HA1 := Lib.hid (HA1.out.under hb3' (by omega))
  have HA2 := Lib.hid (HA2.out.under hb3' hz2)
  have HV := Lib.hid (HV.out.under hb3' hb3'.size)
  have HU := Lib.hid (HU.out.under hb3' hb3'.size)
  have HX := Lib.hid hx1
  have HB3 := Lib.hid (HB2.out.trans (hb3'.mono hb2))
  clear HB2 c0 c1 c2 c3 c4 hb3' hx1
  have c0 := HA1.out.cell 0 rfl
  have c1 := HA1.out.cell 1 rfl
  have c2 := HA1.out.cell 2 rfl
  have c3 := HA1.out.cell 3 rfl
  have c4 := HA1.out.cell 4 rfl
  go_upto_region 5 with (go_at_call 51; refine (tgetC HV.out).mono ?_; rintro e w4 ⟨y, rfl, hy, hb4⟩)
  have hb4' := hb4.alloc hb4.size (.cells #[.int .i64 y.k, .int .i64 y.n, .string y.s, .slice y.pl y.nl y.cl, .slice y.pm y.nm y.cm] 25)
  obtain ⟨W4, hW4⟩ : ∃ W4, w4.alloc (.cells #[.int .i64 y.k, .int .i64 y.n, .string y.s, .slice y.pl y.nl y.cl, .slice y.pm y.nm y.cm] 25) = W4 := ⟨_, rfl⟩
  rw [hW4] at hb4' ⊢
  clear hW4 hy hb4
  have hz3 := hA3.lt
  have hb3 := HB3.out.size
  have HA1 := HA1.out.under hb4' (by omega)
  have HA2 := HA2.out.under hb4' (by omega)
  have HA3 := hA3.under hb4' hz3
  have HV := Lib.hid (HV.out.under hb4' (Nat.le_refl _))
  have HU := Lib.hid (HU.out.under hb4' (Nat.le_refl _))
  have HX := Lib.hid (HX.out.under hb4' (Nat.le_refl _))
  have hz4 := hb4'.size
  have HB4 := Lib.hid (HB3.out.trans (hb4'.mono hb3))
  obtain ⟨B, hB⟩ : ∃ B, W3.heap.size = B := ⟨_, rfl⟩
  rw [hB] at HV HU HX hz3 hz4 hb3
  clear HB3 c0 c1 c2 c3 c4 hb4' hA3 hB
  have q1 : g1 < B := by omega
  have q2 : g2 < B := by omega
  have q3 : g3 < B := by omega
  have c0 := HA1.cell 0 rfl
  have c1 := HA1.cell 1 rfl
  have c2 := HA1.cell 2 rfl
  have c3 := HA1.cell 3 rfl
  have c4 := HA1.cell 4 rfl
  have d0 := HA2.cell 0 rfl
  have d1 := HA2.cell 1 rfl
  have d2 := HA2.cell 2 rfl
  have d3 := HA2.cell 3 rfl
  have d4 := HA2.cell 4 rfl
  have f0 := HA3.cell 0 rfl
  have f1 := HA3.cell 1 rfl
  have f2 := HA3.cell 2 rfl
  have f3 := HA3.cell 3 rfl
  have f4 := HA3.cell 4 rfl
  have HZ := Lib.hid hz4
  have HB := Lib.hid hb3
  clear HA1 HA2 HA3 hz1 hz2 hz3 hz4 hg1 hg2 hg3 hb2 hb3
  have hfm := field_mem
  have HXN := hxn
  have hxn := hxn.out
  go_region_held3 (fun w' => Below B W4 w' ∧ ∀ b o, b < B → w'.cell? ⟨b, o, none⟩ = W4.cell? ⟨b, o, none⟩)
    (first | exact KB.mk (Below.refl _ _).drew | exact hbk)
    (first
      | (go_at_call 35; refine (tsame (by assumption) HZ HV HU).mono ?_; rintro e w5 ⟨rfl, hbk⟩)
      | (go_at_call 17; refine (tsort (by assumption) HZ HV).mono ?_; rintro e w5 ⟨q, rfl, HQ, hbk⟩)
      | (go_at_call 31; refine (tsame5 (by assumption) HZ HQ HU).mono ?_; rintro e w5 ⟨rfl, hbk⟩)
      | (go_at_call 16; refine (tcount (by assumption) HZ HV).mono ?_; rintro e w5 ⟨rfl, hbk⟩)
      | (go_at_call 37; refine (twith (by assumption) HZ HV HX HXN).mono ?_; rintro e w5 ⟨p, c, rfl, hbk⟩)
      | (go_at_call 38; refine (twithout (by assumption) HZ HV).mono ?_; rintro e w5 ⟨p, c, rfl, hbk⟩))
  go_wp2_with fail
  go_ret
  exact ⟨rfl, KB.fin (by assumption) HB4.out HB.out⟩
end Go.Proofs.Ythgkgjcnmahacaa
