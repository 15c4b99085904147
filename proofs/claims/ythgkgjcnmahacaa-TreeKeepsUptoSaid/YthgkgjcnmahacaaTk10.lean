import Derived.Test.YthgkgjcnmahacaaTk09
import Derived.Test.YthgkgjcnmahacaaTk08
import Derived.Test.YthgkgjcnmahacaaTk00
import Derived.Test.YthgkgjcnmahacaaTk01
import Derived.Lib.AppendStr
import Derived.Lib.BufferRead
import Derived.Laws.IdiomStrings
import Derived.WalkLawsBesides
section
/- The law's answers that the document fixes: true. -/
set_option linter.unusedSimpArgs false
set_option linter.unusedVariables false
namespace Go.Proofs.Ythgkgjcnmahacaa
open Go.RowKit Go.OpenShut

theorem TreeOf.n_of {w : World} {B : Nat} {k n : Int} {s : ByteArray} {l : List JV} {m : List (ByteArray × JV)} {r : RV} (h : TreeOf w B (.mk k n s l m) r) : r.n = n := by
  cases h; rfl
theorem two_tree {w : World} {a b : ByteArray} {na nb : Int} {e : Ending} {w' : World} (h : MapRet w 0 [(a, numT na), (b, numT nb)] e w') :
    ∃ q : RV, e = .returned q.val ∧ TreeOf w' w'.heap.size (.mk 6 0 ⟨#[]⟩ [] [(a, numT na), (b, numT nb)]) q ∧ Below w.heap.size w w' := by
  obtain ⟨pm, nm, cm, rms, rfl, ho, hm, hb⟩ := h
  exact ⟨_, rfl, TreeOf.map ho hm (Nat.zero_le _), hb⟩

theorem tgetA {w : World} {v : RV} (h : TreeOf w w.heap.size tvT v) : Calls Try.prog 51 #[v.val, .string nA] w (fun e w' => ∃ x : RV, e = .returned (.tuple #[x.val, .bool true]) ∧ TreeOf w' w'.heap.size (numT 2) x ∧ Below w.heap.size w w') :=
  (get_any tvT v nA w h tv_ok).mono fun e w' ⟨x, b, he, hb, hx, hw⟩ => by
    rw [tv_a] at hb hx
    subst hb
    exact ⟨x, he, hx, hw⟩
theorem tgetC {w : World} {v : RV} (h : TreeOf w w.heap.size tvT v) : Calls Try.prog 51 #[v.val, .string nC] w (fun e w' => ∃ x : RV, e = .returned (.tuple #[x.val, .bool false]) ∧ TreeOf w' w'.heap.size JV.zero x ∧ Below w.heap.size w w') :=
  (get_any tvT v nC w h tv_ok).mono fun e w' ⟨x, b, he, hb, hx, hw⟩ => by
    rw [tv_c] at hb hx
    subst hb
    exact ⟨x, he, hx, hw⟩

/-- The members of a map. -/
theorem field_mem (k n : Int) (s : ByteArray) (pl pm : Option Addr) (nl cl nm cm : Nat) (w : World) : (Instr.field 25 (.agg #[.int .i64 k, .int .i64 n, .string s, .slice pl nl cl, .slice pm nm cm]) 4).run Try.prog w = .ok (.slice pm nm cm) w := by kernel_rfl
section
variable {B : Nat} {W w : World} (hk : KB B W w) (hz : Hid (B ≤ W.heap.size))
include hk hz
theorem KB.le : B ≤ w.heap.size := Nat.le_trans hz.out hk.1.size
theorem KB.tree {t : JV} {r : RV} (h : Hid (TreeOf W B t r)) : TreeOf w w.heap.size t r := h.out.under hk.1 (hk.le hz)
theorem KB.stepB {w' : World} (h : Below w.heap.size w w') : KB B W w' := KB.mk (hk.1.trans (h.mono (hk.le hz)))
theorem tsame {v u : RV} (h : Hid (TreeOf W B tvT v)) (h' : Hid (TreeOf W B twT u)) : Calls Try.prog 35 #[v.val, u.val] w (fun e w' => e = .returned (.bool true) ∧ KB B W w') :=
  (sameT_any _ tvT twT v u w (Nat.le_refl _) (hk.tree hz h) (hk.tree hz h') tv_ok tw_ok).mono fun e w' ⟨b, he, hb, hw⟩ => by
    rw [hb.2 tv_same] at he
    exact ⟨he, hk.stepB hz hw⟩
theorem tsort {v : RV} (h : Hid (TreeOf W B tvT v)) : Calls Try.prog 17 #[v.val] w (fun e w' => ∃ q : RV, e = .returned q.val ∧ Hid (TreeOf w' w'.heap.size twT q) ∧ KB B W w') :=
  (sort_any _ tvT v w (Nat.le_refl _) (hk.tree hz h) tv_ok).mono fun e w' ⟨u, hu, q, he, hq, hw⟩ => by
    rw [tv_sort hu] at hq
    exact ⟨q, he, Lib.hid (hq.tree), hk.stepB hz hw⟩
theorem tsame5 {q u : RV} (hq : Hid (TreeOf w w.heap.size twT q)) (h : Hid (TreeOf W B twT u)) : Calls Try.prog 31 #[q.val, u.val] w (fun e w' => e = .returned (.bool true) ∧ KB B W w') :=
  (same5_any _ twT twT q u w (Nat.le_refl _) hq.out (hk.tree hz h) tw_ok tw_ok).mono fun e w' ⟨b, he, hb, hw⟩ => by
    rw [hb.2 rfl] at he
    exact ⟨he, hk.stepB hz hw⟩
theorem tcount {v : RV} (h : Hid (TreeOf W B tvT v)) : Calls Try.prog 16 #[v.val] w (fun e w' => e = .returned (.int .i64 3) ∧ KB B W w') :=
  (countT_any _ tvT v w (Nat.le_refl _) (hk.tree hz h) tv_ok).mono fun e w' ⟨he, hw⟩ => by
    rw [tv_count] at he
    exact ⟨he, hk.stepB hz hw⟩
theorem twith {v x : RV} (h : Hid (TreeOf W B tvT v)) (h' : Hid (TreeOf W B (numT 2) x)) (hn : Hid (x.n = 2)) : Calls Try.prog 37 #[v.val, .string nC, .agg #[.int .i64 x.k, .int .i64 2, .string x.s, .slice x.pl x.nl x.cl, .slice x.pm x.nm x.cm]] w (fun e w' => ∃ p c, e = .returned (.agg #[.int .i64 6, .int .i64 0, .string ⟨#[]⟩, .slice none 0 0, .slice p 3 c]) ∧ KB B W w') := by
  rw [← hn.out]
  exact (with_any tvT (numT 2) v x nC w w.heap.size (Nat.le_refl _) (hk.tree hz h) tv_ok (hk.tree hz h') (by decide)).mono fun e w' hm => by
    obtain ⟨p, n, c, rms, he, ho, hms, hw⟩ := hm
    have := rd_nlen (ho.rd codecM)
    have h3 := hms.len
    rw [tv_with] at h3
    obtain rfl : n = 3 := by omega
    exact ⟨p, c, he, hk.stepB hz hw⟩
theorem twithout {v : RV} (h : Hid (TreeOf W B tvT v)) : Calls Try.prog 38 #[v.val, .string nA] w (fun e w' => ∃ p c, e = .returned (.agg #[.int .i64 6, .int .i64 0, .string ⟨#[]⟩, .slice none 0 0, .slice p 1 c]) ∧ KB B W w') :=
  (without_any tvT v nA w w.heap.size (Nat.le_refl _) (hk.tree hz h) tv_ok (by decide)).mono fun e w' hm => by
    obtain ⟨p, n, c, rms, he, ho, hms, hw⟩ := hm
    have := rd_nlen (ho.rd codecM)
    have h3 := hms.len
    rw [tv_without] at h3
    obtain rfl : n = 1 := by omega
    exact ⟨p, c, he, hk.stepB hz hw⟩
end

set_option maxRecDepth 100000 in
set_option maxHeartbeats 4000000 in
theorem tawake_any (w : World) : Calls Try.prog 14 #[] w fun e w' => e = .returned (.bool true) ∧ Below w.heap.size w w' := by
  have h1 : ∀ w, Calls Try.prog 50 #[.string ⟨#[98]⟩, .string ⟨#[97]⟩] w (fun e w' => ∃ q : RV, e = .returned q.val ∧ TreeOf w' w'.heap.size tvT q ∧ Below w.heap.size w w') := fun w =>
    (two_any ⟨#[98]⟩ ⟨#[97]⟩ 1 2 w rfl rfl (by decide) (by decide)).mono fun e w' h => two_tree h
  have h2 : ∀ w, Calls Try.prog 50 #[.string ⟨#[97]⟩, .string ⟨#[98]⟩] w (fun e w' => ∃ q : RV, e = .returned q.val ∧ TreeOf w' w'.heap.size twT q ∧ Below w.heap.size w w') := fun w =>
    (two_any ⟨#[97]⟩ ⟨#[98]⟩ 2 1 w rfl rfl (by decide) (by decide)).mono fun e w' h => two_tree h
  have H1 := Lib.hid h1
  have H2 := Lib.hid h2
  clear h1 h2
  go_enter Try.func14, Try.ntmps14
  go_upto_region 2 with (go_at_call 50; refine (H1.out _).mono ?_; rintro e w1 ⟨v, rfl, hv, hb1⟩)
  have hA1 : VAt (w1.alloc (.cells #[.int .i64 v.k, .int .i64 v.n, .string v.s, .slice v.pl v.nl v.cl, .slice v.pm v.nm v.cm] 25)) w1.heap.size v := heap_alloc_at rfl
  have hv1 := hv.under (w' := w1.alloc (.cells #[.int .i64 v.k, .int .i64 v.n, .string v.s, .slice v.pl v.nl v.cl, .slice v.pm v.nm v.cm] 25)) ((Below.refl _ _).alloc (Nat.le_refl _) _) (by simp : w1.heap.size ≤ (w1.alloc (.cells #[.int .i64 v.k, .int .i64 v.n, .string v.s, .slice v.pl v.nl v.cl, .slice v.pm v.nm v.cm] 25)).heap.size)
  have hb1' := hb1.alloc hb1.size (.cells #[.int .i64 v.k, .int .i64 v.n, .string v.s, .slice v.pl v.nl v.cl, .slice v.pm v.nm v.cm] 25)
  have hg1 := hb1.size
  obtain ⟨W1, hW1⟩ : ∃ W1, w1.alloc (.cells #[.int .i64 v.k, .int .i64 v.n, .string v.s, .slice v.pl v.nl v.cl, .slice v.pm v.nm v.cm] 25) = W1 := ⟨_, rfl⟩
  obtain ⟨g1, hgg⟩ : ∃ g, w1.heap.size = g := ⟨_, rfl⟩
  rw [hW1, hgg] at hA1
  rw [hW1] at hv1 hb1' ⊢
  rw [hgg] at hg1 ⊢
  clear hW1 hgg hv hb1
  go_upto_region 3 with (go_at_call 50; refine (H2.out _).mono ?_; rintro e w2 ⟨u, rfl, hu, hb2⟩)
  have hA2 : VAt (w2.alloc (.cells #[.int .i64 u.k, .int .i64 u.n, .string u.s, .slice u.pl u.nl u.cl, .slice u.pm u.nm u.cm] 25)) w2.heap.size u := heap_alloc_at rfl
  have hb2' := hb2.alloc hb2.size (.cells #[.int .i64 u.k, .int .i64 u.n, .string u.s, .slice u.pl u.nl u.cl, .slice u.pm u.nm u.cm] 25)
  have hu1 := hu.under (w' := w2.alloc (.cells #[.int .i64 u.k, .int .i64 u.n, .string u.s, .slice u.pl u.nl u.cl, .slice u.pm u.nm u.cm] 25)) ((Below.refl _ _).alloc (Nat.le_refl _) _) (by simp : w2.heap.size ≤ (w2.alloc (.cells #[.int .i64 u.k, .int .i64 u.n, .string u.s, .slice u.pl u.nl u.cl, .slice u.pm u.nm u.cm] 25)).heap.size)
  have hg2 := hb2.size
  obtain ⟨W2, hW2⟩ : ∃ W2, w2.alloc (.cells #[.int .i64 u.k, .int .i64 u.n, .string u.s, .slice u.pl u.nl u.cl, .slice u.pm u.nm u.cm] 25) = W2 := ⟨_, rfl⟩
  obtain ⟨g2, hgg⟩ : ∃ g, w2.heap.size = g := ⟨_, rfl⟩
  rw [hW2, hgg] at hA2
  rw [hW2] at hu1 hb2' ⊢
  rw [hgg] at hg2 ⊢
  clear hW2 hgg hu hb2
  have hz1 := hA1.lt
  have hA1 := hA1.under hb2' hz1
  have hv2 := hv1.under hb2' hb2'.size
  have HB2 := Lib.hid (hb1'.trans (hb2'.mono (by omega)))
  clear hv1 hb1' hb2'
  have HV := Lib.hid hv2
  have HU := Lib.hid hu1
  have c0 := hA1.cell 0 rfl
  have c1 := hA1.cell 1 rfl
  have c2 := hA1.cell 2 rfl
  have c3 := hA1.cell 3 rfl
  have c4 := hA1.cell 4 rfl
  have HA1 := Lib.hid hA1
  have HA2 := Lib.hid hA2
  clear hA1 hA2 hv2 hu1
  go_upto_region 4 with (go_at_call 51; refine (tgetA HV.out).mono ?_; rintro e w3 ⟨x, rfl, hx, hb3⟩)
  have hxn : Hid (x.n = 2) := TreeOf.n_of hx
  have hA3 : VAt (w3.alloc (.cells #[.int .i64 x.k, .int .i64 x.n, .string x.s, .slice x.pl x.nl x.cl, .slice x.pm x.nm x.cm] 25)) w3.heap.size x := heap_alloc_at rfl
  have hb3' := hb3.alloc hb3.size (.cells #[.int .i64 x.k, .int .i64 x.n, .string x.s, .slice x.pl x.nl x.cl, .slice x.pm x.nm x.cm] 25)
  have hx1 := hx.under (w' := w3.alloc (.cells #[.int .i64 x.k, .int .i64 x.n, .string x.s, .slice x.pl x.nl x.cl, .slice x.pm x.nm x.cm] 25)) ((Below.refl _ _).alloc (Nat.le_refl _) _) (by simp : w3.heap.size ≤ (w3.alloc (.cells #[.int .i64 x.k, .int .i64 x.n, .string x.s, .slice x.pl x.nl x.cl, .slice x.pm x.nm x.cm] 25)).heap.size)
  have hg3 := hb3.size
  obtain ⟨W3, hW3⟩ : ∃ W3, w3.alloc (.cells #[.int .i64 x.k, .int .i64 x.n, .string x.s, .slice x.pl x.nl x.cl, .slice x.pm x.nm x.cm] 25) = W3 := ⟨_, rfl⟩
  obtain ⟨g3, hgg⟩ : ∃ g, w3.heap.size = g := ⟨_, rfl⟩
  rw [hW3, hgg] at hA3
  rw [hW3] at hx1 hb3' ⊢
  rw [hgg] at hg3 ⊢
  clear hW3 hgg hx hb3
  have hz2 := HA2.out.lt
  have hb2 := HB2.out.size
  have HA1 := Lib.hid (HA1.out.under hb3' (by omega))
  have HA2 := Lib.hid (HA2.out.under hb3' hz2)
  have HV := Lib.hid (HV.out.under hb3' hb3'.size)
  have HU := Lib.hid (HU.out.under hb3' hb3'.size)
  have HX := Lib.hid hx1
  have HB3 := Lib.hid (HB2.out.trans (hb3'.mono hb2))
  clear HB2 c0 c1 c2 c3 c4 hb3' hx1
  have c0 := HA1.out.cell 0 rfl
  have c1 := HA1.out.cell 1 rfl
  have c2 := HA1.out.cell 2 rfl
  have c3 := HA1.out.cell 3 rfl
  have c4 := HA1.out.cell 4 rfl
  go_upto_region 5 with (go_at_call 51; refine (tgetC HV.out).mono ?_; rintro e w4 ⟨y, rfl, hy, hb4⟩)
  have hb4' := hb4.alloc hb4.size (.cells #[.int .i64 y.k, .int .i64 y.n, .string y.s, .slice y.pl y.nl y.cl, .slice y.pm y.nm y.cm] 25)
  obtain ⟨W4, hW4⟩ : ∃ W4, w4.alloc (.cells #[.int .i64 y.k, .int .i64 y.n, .string y.s, .slice y.pl y.nl y.cl, .slice y.pm y.nm y.cm] 25) = W4 := ⟨_, rfl⟩
  rw [hW4] at hb4' ⊢
  clear hW4 hy hb4
  have hz3 := hA3.lt
  have hb3 := HB3.out.size
  have HA1 := HA1.out.under hb4' (by omega)
  have HA2 := HA2.out.under hb4' (by omega)
  have HA3 := hA3.under hb4' hz3
  have HV := Lib.hid (HV.out.under hb4' (Nat.le_refl _))
  have HU := Lib.hid (HU.out.under hb4' (Nat.le_refl _))
  have HX := Lib.hid (HX.out.under hb4' (Nat.le_refl _))
  have hz4 := hb4'.size
  have HB4 := Lib.hid (HB3.out.trans (hb4'.mono hb3))
  obtain ⟨B, hB⟩ : ∃ B, W3.heap.size = B := ⟨_, rfl⟩
  rw [hB] at HV HU HX hz3 hz4 hb3
  clear HB3 c0 c1 c2 c3 c4 hb4' hA3 hB
  have q1 : g1 < B := by omega
  have q2 : g2 < B := by omega
  have q3 : g3 < B := by omega
  have c0 := HA1.cell 0 rfl
  have c1 := HA1.cell 1 rfl
  have c2 := HA1.cell 2 rfl
  have c3 := HA1.cell 3 rfl
  have c4 := HA1.cell 4 rfl
  have d0 := HA2.cell 0 rfl
  have d1 := HA2.cell 1 rfl
  have d2 := HA2.cell 2 rfl
  have d3 := HA2.cell 3 rfl
  have d4 := HA2.cell 4 rfl
  have f0 := HA3.cell 0 rfl
  have f1 := HA3.cell 1 rfl
  have f2 := HA3.cell 2 rfl
  have f3 := HA3.cell 3 rfl
  have f4 := HA3.cell 4 rfl
  have HZ := Lib.hid hz4
  have HB := Lib.hid hb3
  clear HA1 HA2 HA3 hz1 hz2 hz3 hz4 hg1 hg2 hg3 hb2 hb3
  have hfm := field_mem
  have HXN := hxn
  have hxn := hxn.out
  go_region_held3 (fun w' => Below B W4 w' ∧ ∀ b o, b < B → w'.cell? ⟨b, o, none⟩ = W4.cell? ⟨b, o, none⟩)
    (first | exact KB.mk (Below.refl _ _).drew | exact hbk)
    (first
      | (go_at_call 35; refine (tsame (by assumption) HZ HV HU).mono ?_; rintro e w5 ⟨rfl, hbk⟩)
      | (go_at_call 17; refine (tsort (by assumption) HZ HV).mono ?_; rintro e w5 ⟨q, rfl, HQ, hbk⟩)
      | (go_at_call 31; refine (tsame5 (by assumption) HZ HQ HU).mono ?_; rintro e w5 ⟨rfl, hbk⟩)
      | (go_at_call 16; refine (tcount (by assumption) HZ HV).mono ?_; rintro e w5 ⟨rfl, hbk⟩)
      | (go_at_call 37; refine (twith (by assumption) HZ HV HX HXN).mono ?_; rintro e w5 ⟨p, c, rfl, hbk⟩)
      | (go_at_call 38; refine (twithout (by assumption) HZ HV).mono ?_; rintro e w5 ⟨p, c, rfl, hbk⟩))
  go_wp2_with fail
  go_ret
  exact ⟨rfl, KB.fin (by assumption) HB4.out HB.out⟩
end Go.Proofs.Ythgkgjcnmahacaa
end

section
/- What is kept below a call's own memory, step by step. -/
set_option linter.unusedSimpArgs false
set_option linter.unusedVariables false
namespace Go.Proofs.Ythgkgjcnmahacaa
open Go.RowKit Go.OpenShut

theorem KB.setV {W W' : World} (h : KB W.heap.size W W') (g : Nat) (q : RV) (hg : W.heap.size ≤ g) : KB W.heap.size W (((((W'.setCell ⟨g, 0, none⟩ (.int .i64 q.k)).setCell ⟨g, 1, none⟩ (.int .i64 q.n)).setCell ⟨g, 2, none⟩ (.string q.s)).setCell ⟨g, 3, none⟩ (.slice q.pl q.nl q.cl)).setCell ⟨g, 4, none⟩ (.slice q.pm q.nm q.cm)) :=
  KB.mk (Below.stored h.1 hg q)
theorem kt_drew (W : World) : Below W.heap.size W W.drew ∧ ∀ b o, b < W.heap.size → World.cell? W.drew ⟨b, o, none⟩ = W.cell? ⟨b, o, none⟩ := KB.drew W
theorem kt_da (W : World) (x : Obj) : Below W.heap.size W (W.alloc x).drew ∧ ∀ b o, b < W.heap.size → World.cell? (W.alloc x).drew ⟨b, o, none⟩ = W.cell? ⟨b, o, none⟩ := (KB.mk ((Below.refl _ _).alloc (Nat.le_refl _) x).drew : KB W.heap.size W (W.alloc x).drew)
theorem kt_same {W W' : World} (h : KB W.heap.size W W') : Below W.heap.size W W' ∧ ∀ b o, b < W.heap.size → World.cell? W' ⟨b, o, none⟩ = W.cell? ⟨b, o, none⟩ := h
theorem kt_alloc {W W' : World} (h : KB W.heap.size W W') (x : Obj) : Below W.heap.size W (W'.alloc x) ∧ ∀ b o, b < W.heap.size → World.cell? (W'.alloc x) ⟨b, o, none⟩ = W.cell? ⟨b, o, none⟩ := h.step ((Below.refl _ _).alloc (Nat.le_refl _) _)
theorem kt_setV {W W' : World} (h : KB W.heap.size W W') (g : Nat) (q : RV) (hg : W.heap.size ≤ g) : Below W.heap.size W (((((W'.setCell ⟨g, 0, none⟩ (.int .i64 q.k)).setCell ⟨g, 1, none⟩ (.int .i64 q.n)).setCell ⟨g, 2, none⟩ (.string q.s)).setCell ⟨g, 3, none⟩ (.slice q.pl q.nl q.cl)).setCell ⟨g, 4, none⟩ (.slice q.pm q.nm q.cm)) ∧ ∀ b o, b < W.heap.size → World.cell? (((((W'.setCell ⟨g, 0, none⟩ (.int .i64 q.k)).setCell ⟨g, 1, none⟩ (.int .i64 q.n)).setCell ⟨g, 2, none⟩ (.string q.s)).setCell ⟨g, 3, none⟩ (.slice q.pl q.nl q.cl)).setCell ⟨g, 4, none⟩ (.slice q.pm q.nm q.cm)) ⟨b, o, none⟩ = W.cell? ⟨b, o, none⟩ := h.setV g q hg
end Go.Proofs.Ythgkgjcnmahacaa
end

section
/- The law's spoil: it writes into a value's own lists, and nowhere else. -/
set_option linter.unusedSimpArgs false
set_option linter.unusedVariables false
namespace Go.Proofs.Ythgkgjcnmahacaa
open Go.RowKit Go.OpenShut

/-- Only blocks of S, and new ones, may have turned. -/
structure Chg (w w' : World) (S : Nat → Prop) : Prop where
  os : w'.os = w.os
  tape : w'.tape = w.tape
  output : w'.output = w.output
  size : w.heap.size ≤ w'.heap.size
  block : ∀ k, k < w.heap.size → ¬ S k → w'.heap[k]? = w.heap[k]?
section
variable {w w1 w2 : World} {S T : Nat → Prop}
theorem Chg.refl (w : World) (S : Nat → Prop) : Chg w w S := ⟨rfl, rfl, rfl, Nat.le_refl _, fun _ _ _ => rfl⟩
theorem Chg.trans (h : Chg w w1 S) (h' : Chg w1 w2 S) : Chg w w2 S :=
  ⟨h'.os.trans h.os, h'.tape.trans h.tape, h'.output.trans h.output, Nat.le_trans h.size h'.size, fun k hk hs => (h'.block k (by have := h.size; omega) hs).trans (h.block k hk hs)⟩
theorem Chg.mono (h : Chg w w1 S) (hs : ∀ k, S k → T k) : Chg w w1 T := ⟨h.os, h.tape, h.output, h.size, fun k hk ht => h.block k hk (fun e => ht (hs k e))⟩
theorem Chg.of_below (h : Below w.heap.size w w1) (S : Nat → Prop) : Chg w w1 S := ⟨h.os, h.tape, h.output, h.size, fun k hk _ => h.block k hk⟩
theorem Chg.of_grown {g : Nat} (h : w.grownBy w1 (some g)) (hg : S g) : Chg w w1 S := ⟨h.os, h.tape, h.output, h.size, fun k hk hs => h.block k hk (fun e => hs (by cases e; exact hg))⟩
theorem Chg.below {B : Nat} (h : Chg w w1 S) (hB : B ≤ w.heap.size) (hs : ∀ k, S k → B ≤ k) : Below B w w1 :=
  ⟨h.os, h.tape, h.output, h.size, fun k hk => h.block k (by omega) (fun e => by have := hs k e; omega)⟩
theorem Chg.vat {g : Nat} {r : RV} (h : Chg w w1 S) (ha : VAt w g r) (hg : ¬ S g) : VAt w1 g r := (h.block g ha.lt hg).trans ha
end
theorem _root_.Go.Proofs.Ythgkgjcnmahacaa.Own.mono0 {α : Type} {e : TypeId} {enc : α → List Value} {sz : Nat} {w : World} {base : Nat} {v : Value} {xs : List α} (h : Own w base e enc sz v xs) : Own w 0 e enc sz v xs := by
  obtain ⟨hl, h⟩ := h
  refine ⟨hl, ?_⟩
  rcases h with h | ⟨g, cap, cur, rfl, hg, r⟩
  · exact .inl h
  · exact .inr ⟨g, cap, cur, rfl, Nat.zero_le _, r⟩
def spoilM : RM := ⟨⟨#[115, 112, 111, 105, 108, 116]⟩, RV.zero⟩
def SpRet (w : World) (S : Nat → Prop) (e : Ending) (w' : World) : Prop := e = .returned (.tuple #[]) ∧ Chg w w' S

set_option maxRecDepth 100000 in
set_option maxHeartbeats 4000000 in
theorem spoil_any (N : Nat) : ∀ (t : JV) (r : RV) (w : World) (S : Nat → Prop), SizeOf.sizeOf t ≤ N → LoneV w S t r → (∀ k, S k → k < w.heap.size) → t.Ok →
    Calls Try.prog 39 #[r.val, .bool true] w (SpRet w S) := by
  induction N with
  | zero => intro t r w S hN; cases t; simp at hN
  | succ N ih =>
    intro t r w S hN ht hS ot
    cases ht with
    | @mk _ _ l m rs rms F hl hm sl sm dr el em cn cl cm ff dd =>
    obtain ⟨k, n, s, pl, nl, cl', pm, nm, cm'⟩ := r
    cases ot with
    | mk wk wn bs bl bm okl oks okm =>
    dsimp only [RV.val] at *
    have eL := rd_nlen (hl.rd codecV)
    have eM := rd_nlen (hm.rd codecM)
    have hnl : nl ≤ 1759218604390 := by omega
    have hnm : nm ≤ 1466015503658 := by omega
    have HM : Hid (∀ (j : Nat) (q : RM), rms[j]? = some q → ∀ W, (∀ k, F (.inr j) k → W.heap[k]? = w.heap[k]?) → w.heap.size ≤ W.heap.size → Calls Try.prog 39 #[q.v.val, .bool true] W (SpRet W (F (.inr j)))) := fun j q hq W hk hz => by
      obtain ⟨p, hp⟩ : ∃ p, m[j]? = some p := ⟨_, List.getElem?_eq_getElem (by have := (List.getElem?_eq_some_iff.1 hq).1; omega)⟩
      exact ih p.2 q.v W _ (by have := JV.lt_m (k := k) (n := n) (s := s) (l := l) hp; omega) ((cm j p q hp hq).same hk) (fun k hf => by have := hS k (ff _ k hf).1; omega) (okm j p hp)
    have HL : Hid (∀ (j : Nat) (q : RV), rs[j]? = some q → ∀ W, (∀ k, F (.inl j) k → W.heap[k]? = w.heap[k]?) → w.heap.size ≤ W.heap.size → Calls Try.prog 39 #[q.val, .bool true] W (SpRet W (F (.inl j)))) := fun j q hq W hk hz => by
      obtain ⟨p, hp⟩ : ∃ p, l[j]? = some p := ⟨_, List.getElem?_eq_getElem (by have := (List.getElem?_eq_some_iff.1 hq).1; omega)⟩
      exact ih p q W _ (by have := JV.lt_l (k := k) (n := n) (s := s) (m := m) hp; omega) ((cl j p q hp hq).same hk) (fun k hf => by have := hS k (ff _ k hf).1; omega) (okl j p hp)
    have HA0 : Hid (VAt (w.alloc (.cells #[.int .i64 k, .int .i64 n, .string s, .slice pl nl cl', .slice pm nm cm'] 25)) w.heap.size ⟨k, n, s, pl, nl, cl', pm, nm, cm'⟩) := heap_alloc_at rfl
    have HOM := Lib.hid hm
    have HOL := Lib.hid hl
    have HF := Lib.hid ff
    have HD := Lib.hid dd
    have HSL := Lib.hid sl
    have HSM := Lib.hid sm
    have HDR := Lib.hid dr
    have HS := Lib.hid hS
    have EL : Hid (rs.length = nl) := by unfold Hid; omega
    have EM : Hid (rms.length = nm) := by unfold Hid; omega
    have HC0 : Hid (Chg w (w.alloc (.cells #[.int .i64 k, .int .i64 n, .string s, .slice pl nl cl', .slice pm nm cm'] 25)) (fun _ => False)) := Chg.of_below ((Below.refl _ _).alloc (Nat.le_refl _) _) _
    have HZ0 : Hid (w.heap.size < (w.alloc (.cells #[.int .i64 k, .int .i64 n, .string s, .slice pl nl cl', .slice pm nm cm'] 25)).heap.size) := by simp [Hid]
    clear ih cm cl cn okl oks okm hm hl ff dd sl sm dr hS el em bl bm eL eM hN wk wn bs
    go_enter Try.func39, Try.ntmps39
    go_upto_region 1 with fail
    obtain ⟨W0, hW0⟩ : ∃ W0, (w.alloc (.cells #[.int .i64 k, .int .i64 n, .string s, .slice pl nl cl', .slice pm nm cm'] 25)) = W0 := ⟨_, rfl⟩
    rw [hW0] at HA0 HC0 HZ0 ⊢
    clear hW0
    go_wp2_with fail
    go_loopw [4] (fun i wr => ∃ (j : Nat) (ys : List RM), i = .int .i64 (j : Int) ∧ j ≤ nm ∧ Hid (Chg W0 wr (fun k => (Value.slice pm nm cm').ownBlock = some k ∨ ∃ i, i < j ∧ F (.inr i) k)) ∧ Hid (Own wr 0 90 encM 6 (.slice pm nm cm') ys) ∧ Hid (∀ i, j ≤ i → ys[i]? = rms[i]?)) (fun i _ => nm - (intOf i).toNat)
    case atStart => exact ⟨0, rms, rfl, Nat.zero_le _, Chg.refl _ _, HOM.out.same (fun k e => HC0.out.block k (HOM.out.lt k e).2 (fun h => h)), fun i _ => rfl⟩
    case round =>
      obtain ⟨j, ys, rfl, hj, hch, hown, hys⟩ := hrel
      have hAx := hch.out.vat HA0.out (fun h => by
        rcases h with h | ⟨i, _, h⟩
        · have := (HOM.out.lt _ h).2; omega
        · have := HS.out _ (HF.out _ _ h).1; omega)
      have hz := hAx.lt
      have a0 := hAx.cell 0 rfl
      have a1 := hAx.cell 1 rfl
      have a2 := hAx.cell 2 rfl
      have a3 := hAx.cell 3 rfl
      have a4 := hAx.cell 4 rfl
      dsimp only at a0 a1 a2 a3 a4
      clear hAx
      by_cases hlt : j < nm
      · obtain ⟨q, hq⟩ : ∃ q, rms[j]? = some q := ⟨_, List.getElem?_eq_getElem (by have := EM.out; omega)⟩
        have hyq : ys[j]? = some q := by rw [hys.out j (Nat.le_refl _)]; exact hq
        obtain ⟨g, hpg, hnn, hgb, hgl, hcell, hfr⟩ := Own.at codecM hown.out hyq
        subst hpg
        have f0 := hcell 0 _ rfl
        have f1 := hcell 1 _ rfl
        have f2 := hcell 2 _ rfl
        have f3 := hcell 3 _ rfl
        have f4 := hcell 4 _ rfl
        have f5 := hcell 5 _ rfl
        rw [Nat.add_zero] at f0
        have hcell0 := (HM.out j q hq wr (fun k hk => by
          have hk1 := HF.out _ _ hk
          refine (hch.out.block k (Nat.lt_of_lt_of_le (HS.out k hk1.1) (Nat.le_of_lt HZ0.out)) (fun h => ?_)).trans (HC0.out.block k (HS.out k hk1.1) (fun h => h))
          rcases h with h | ⟨i, hi, h⟩
          · exact hk1.2.2 h
          · have := HD.out _ _ _ hk h; cases this; omega) (by have := HZ0.out; have := hch.out.size; omega))
        have HCL := Lib.hid hcell0
        have hj0 : (0 : Int) ≤ (j : Int) := Int.natCast_nonneg _
        have hj1 : (j : Int) < (nm : Int) := by omega
        have hgF : ¬ F (.inr j) g := fun h => (HF.out _ _ h).2.2 rfl
        have hwF : ¬ F (.inr j) w.heap.size := fun h => by have := HS.out _ (HF.out _ _ h).1; omega
        have HGW : Hid (g ≠ w.heap.size) := fun e => by have := (HOM.out.lt g rfl).2; omega
        have HQ := Lib.hid hyq
        clear hcell hcell0 hq hyq hnn hfr
        go_upto_region 6 with (go_at_call 39; refine HCL.out.mono ?_; rintro e w1 ⟨rfl, hc1⟩)
        have hAx := (hch.out.vat HA0.out (fun h => by
          rcases h with h | ⟨i, _, h⟩
          · exact HGW.out (by simpa [Value.ownBlock] using h)
          · have := HS.out _ (HF.out _ _ h).1; omega))
        have hAy := hc1.vat hAx hwF
        have ho1 : Own w1 0 90 encM 6 (.slice (some ⟨g, 0, none⟩) nm cm') ys := hown.out.same (fun k e => by cases e; exact hc1.block g hgl hgF)
        obtain ⟨g', hpg, _, _, hgl1, hcell, hfr⟩ := Own.at codecM ho1 HQ.out
        simp only [Option.some.injEq, Addr.mk.injEq, and_true] at hpg
        subst hpg
        clear a0 a1 a2 a3 a4 f0 f1 f2 f3 f4 f5
        have a0 := hAy.cell 0 rfl
        have a1 := hAy.cell 1 rfl
        have a2 := hAy.cell 2 rfl
        have a3 := hAy.cell 3 rfl
        have a4 := hAy.cell 4 rfl
        dsimp only at a0 a1 a2 a3 a4
        have f0 := hcell 0 _ rfl
        have f1 := hcell 1 _ rfl
        have f2 := hcell 2 _ rfl
        have f3 := hcell 3 _ rfl
        have f4 := hcell 4 _ rfl
        have f5 := hcell 5 _ rfl
        rw [Nat.add_zero] at f0
        have y0 := hfr (j * 6)
        have y1 := hfr (j * 6 + 1)
        have y2 := hfr (j * 6 + 2)
        have y3 := hfr (j * 6 + 3)
        have y4 := hfr (j * 6 + 4)
        have y5 := hfr (j * 6 + 5)
        have hst := Own.storedM ho1 HQ.out ⟨#[115, 112, 111, 105, 108, 116]⟩ RV.zero
        dsimp only [RV.zero] at hst
        have HST := Lib.hid hst
        have HC1 := Lib.hid hc1
        clear hAx hAy hcell hfr hst ho1 hc1 hgF hwF
        go_wp2_with fail
        go_roundw
        case rel => exact ⟨j + 1, _, by go_num, by omega, (hch.out.mono (fun k h => h.imp id (fun ⟨i, h1, h2⟩ => ⟨i, by omega, h2⟩))).trans ((HC1.out.mono (fun k h => .inr ⟨j, by omega, h⟩)).trans (Chg.of_grown HST.out.2 (.inl rfl))), HST.out.1, fun i hi => by
          rw [List.getElem?_set, if_neg (by omega)]
          exact hys.out i (by omega)⟩
        case measure => simp [intOf]; omega
      · obtain rfl : j = nm := by omega
        have hj2 : ¬ ((j : Int) < (j : Int)) := by omega
        have HC1 : Hid (Chg W0 wr (fun k => (Value.slice pm j cm').ownBlock = some k ∨ ∃ i, F (.inr i) k)) := hch.out.mono (fun k h => h.imp id (fun ⟨i, _, h2⟩ => ⟨i, h2⟩))
        have HOL1 : Hid (Own wr 0 25 encV 5 (.slice pl nl cl') rs) := (HOL.out.same (fun k e => HC0.out.block k (HOL.out.lt k e).2 (fun h => h))).same (fun k e => HC1.out.block k (by have := (HOL.out.lt k e).2; have := HZ0.out; omega) (fun h => by
          rcases h with h | ⟨i, h⟩
          · exact HDR.out k e h
          · exact (HF.out _ _ h).2.1 e))
        have HA1 : Hid (VAt wr w.heap.size ⟨k, n, s, pl, nl, cl', pm, j, cm'⟩) := HC1.out.vat HA0.out (fun h => by
          rcases h with h | ⟨i, h⟩
          · have := (HOM.out.lt _ h).2; omega
          · have := HS.out _ (HF.out _ _ h).1; omega)
        have HZ1 : Hid (w.heap.size < wr.heap.size) := by have := HZ0.out; have := HC1.out.size; unfold Hid; omega
        clear hch hown hys
        go_wp2_with fail
        go_loopw [5] (fun i w2 => ∃ (j : Nat) (ys : List RV), i = .int .i64 (j : Int) ∧ j ≤ nl ∧ Hid (Chg wr w2 (fun k => (Value.slice pl nl cl').ownBlock = some k ∨ ∃ i, i < j ∧ F (.inl i) k)) ∧ Hid (Own w2 0 25 encV 5 (.slice pl nl cl') ys) ∧ Hid (∀ i, j ≤ i → ys[i]? = rs[i]?)) (fun i _ => nl - (intOf i).toNat)
        case atStart => exact ⟨0, rs, rfl, Nat.zero_le _, Chg.refl _ _, HOL1.out, fun i _ => rfl⟩
        case round =>
          obtain ⟨i, ys, rfl, hi, hch, hown, hys⟩ := hrel
          have hAx := hch.out.vat HA1.out (fun h => by
            rcases h with h | ⟨i, _, h⟩
            · have := (HOL.out.lt _ h).2; omega
            · have := HS.out _ (HF.out _ _ h).1; omega)
          have hz2 := hAx.lt
          clear a0 a1 a2 a3 a4
          have a0 := hAx.cell 0 rfl
          have a1 := hAx.cell 1 rfl
          have a2 := hAx.cell 2 rfl
          have a3 := hAx.cell 3 rfl
          have a4 := hAx.cell 4 rfl
          dsimp only at a0 a1 a2 a3 a4
          clear hAx
          by_cases hlt : i < nl
          · obtain ⟨q, hq⟩ : ∃ q, rs[i]? = some q := ⟨_, List.getElem?_eq_getElem (by have := EL.out; omega)⟩
            have hyq : ys[i]? = some q := by rw [hys.out i (Nat.le_refl _)]; exact hq
            obtain ⟨g, hpg, hnn, hgb, hgl, hcell, hfr⟩ := Own.at codecV hown.out hyq
            subst hpg
            have f0 := hcell 0 _ rfl
            have f1 := hcell 1 _ rfl
            have f2 := hcell 2 _ rfl
            have f3 := hcell 3 _ rfl
            have f4 := hcell 4 _ rfl
            rw [Nat.add_zero] at f0
            have hcell0 := (HL.out i q hq _ (fun k hk => by
              have hk1 := HF.out _ _ hk
              have hk2 := HS.out k hk1.1
              refine (hch.out.block k (by have := HZ1.out; omega) (fun h => ?_)).trans ((HC1.out.block k (Nat.lt_of_lt_of_le hk2 (Nat.le_of_lt HZ0.out)) (fun h => ?_)).trans (HC0.out.block k hk2 (fun h => h)))
              · rcases h with h | ⟨i, hi, h⟩
                · exact hk1.2.1 h
                · have := HD.out _ _ _ hk h; cases this; omega
              · rcases h with h | ⟨i, h⟩
                · exact hk1.2.2 h
                · have := HD.out _ _ _ hk h; cases this) (by have := HZ1.out; have := hch.out.size; omega))
            have HCL := Lib.hid hcell0
            have hi0 : (0 : Int) ≤ (i : Int) := Int.natCast_nonneg _
            have hi1 : (i : Int) < (nl : Int) := by omega
            have hgF : ¬ F (.inl i) g := fun h => (HF.out _ _ h).2.1 rfl
            have hwF : ¬ F (.inl i) w.heap.size := fun h => by have := HS.out _ (HF.out _ _ h).1; omega
            have HGW : Hid (g ≠ w.heap.size) := fun e => by have := (HOL.out.lt g rfl).2; omega
            have HQ := Lib.hid hyq
            clear hcell hcell0 hq hyq hnn hfr
            go_upto_region 11 with (go_at_call 39; refine HCL.out.mono ?_; rintro e w1 ⟨rfl, hc1⟩)
            have hAx := (hch.out.vat HA1.out (fun h => by
              rcases h with h | ⟨i, _, h⟩
              · exact HGW.out (by simpa [Value.ownBlock] using h)
              · have := HS.out _ (HF.out _ _ h).1; omega))
            have hAy := hc1.vat hAx hwF
            have ho1 : Own w1 0 25 encV 5 (.slice (some ⟨g, 0, none⟩) nl cl') ys := hown.out.same (fun k e => by cases e; exact hc1.block g hgl hgF)
            obtain ⟨g', hpg, _, _, hgl1, hcell, hfr⟩ := Own.at codecV ho1 HQ.out
            simp only [Option.some.injEq, Addr.mk.injEq, and_true] at hpg
            subst hpg
            clear a0 a1 a2 a3 a4 f0 f1 f2 f3 f4
            have a0 := hAy.cell 0 rfl
            have a1 := hAy.cell 1 rfl
            have a2 := hAy.cell 2 rfl
            have a3 := hAy.cell 3 rfl
            have a4 := hAy.cell 4 rfl
            dsimp only at a0 a1 a2 a3 a4
            have f0 := hcell 0 _ rfl
            have f1 := hcell 1 _ rfl
            have f2 := hcell 2 _ rfl
            have f3 := hcell 3 _ rfl
            have f4 := hcell 4 _ rfl
            rw [Nat.add_zero] at f0
            have y0 := hfr (i * 5)
            have y1 := hfr (i * 5 + 1)
            have y2 := hfr (i * 5 + 2)
            have y3 := hfr (i * 5 + 3)
            have y4 := hfr (i * 5 + 4)
            have hst := Own.storedL ho1 HQ.out RV.zero
            dsimp only [RV.zero] at hst
            have HST := Lib.hid hst
            have HCC := Lib.hid hc1
            clear hAx hAy hcell hfr hst ho1 hc1 hgF hwF
            go_wp2_with fail
            go_roundw
            case rel => exact ⟨i + 1, _, by go_num, by omega, (hch.out.mono (fun k h => h.imp id (fun ⟨i, h1, h2⟩ => ⟨i, by omega, h2⟩))).trans ((HCC.out.mono (fun k h => .inr ⟨i, by omega, h⟩)).trans (Chg.of_grown HST.out.2 (.inl rfl))), HST.out.1, fun x hx => by
              rw [List.getElem?_set, if_neg (by omega)]
              exact hys.out x (by omega)⟩
            case measure => simp [intOf]; omega
          · have hi2 : decide ((i : Int) < (nl : Int)) = false := by simp; omega
            have hi3 : ¬ ((i : Int) < (nl : Int)) := by omega
            go_wp2_with fail
            go_end0
            refine ⟨rfl, (HC0.out.mono (fun k h => h.elim)).trans ((HC1.out.mono (fun k h => ?_)).trans (hch.out.mono (fun k h => ?_)))⟩
            · rcases h with h | ⟨x, h⟩
              · exact HSM.out k h
              · exact (HF.out _ _ h).1
            · rcases h with h | ⟨x, _, h⟩
              · exact HSL.out k h
              · exact (HF.out _ _ h).1

set_option maxRecDepth 100000 in
set_option maxHeartbeats 4000000 in
theorem spoilF_any (k n : Int) (s : ByteArray) (pm : Option Addr) (nm : Nat) (cm' : Nat) (rms : List RM) (w : World) (base : Nat) (hm : Own w base 90 encM 6 (.slice pm nm cm') rms) :
    Calls Try.prog 39 #[.agg #[.int .i64 k, .int .i64 n, .string s, .slice none 0 0, .slice pm nm cm'], .bool false] w (SpRet w (fun g => (Value.slice pm nm cm').ownBlock = some g)) := by
  have HA0 : Hid (VAt (w.alloc (.cells #[.int .i64 k, .int .i64 n, .string s, .slice none 0 0, .slice pm nm cm'] 25)) w.heap.size ⟨k, n, s, none, 0, 0, pm, nm, cm'⟩) := heap_alloc_at rfl
  have eM := rd_nlen (hm.rd codecM)
  have hnm : nm ≤ 9223372036854775807 := by
    obtain ⟨p, c, hv, h1, h2⟩ := hm.len
    simp only [Value.slice.injEq] at hv
    obtain ⟨_, h3, h4⟩ := hv
    unfold maxLen at h2
    omega
  have HOM := Lib.hid hm
  have EM : Hid (rms.length = nm) := by unfold Hid; omega
  have HC0 : Hid (Chg w (w.alloc (.cells #[.int .i64 k, .int .i64 n, .string s, .slice none 0 0, .slice pm nm cm'] 25)) (fun _ => False)) := Chg.of_below ((Below.refl _ _).alloc (Nat.le_refl _) _) _
  have HZ0 : Hid (w.heap.size < (w.alloc (.cells #[.int .i64 k, .int .i64 n, .string s, .slice none 0 0, .slice pm nm cm'] 25)).heap.size) := by simp [Hid]
  clear hm eM
  go_enter Try.func39, Try.ntmps39
  go_upto_region 1 with fail
  obtain ⟨W0, hW0⟩ : ∃ W0, (w.alloc (.cells #[.int .i64 k, .int .i64 n, .string s, .slice none 0 0, .slice pm nm cm'] 25)) = W0 := ⟨_, rfl⟩
  rw [hW0] at HA0 HC0 HZ0 ⊢
  clear hW0
  go_wp2_with fail
  go_loopw [4] (fun i wr => ∃ (j : Nat) (ys : List RM), i = .int .i64 (j : Int) ∧ j ≤ nm ∧ ys.length = nm ∧ Hid (Chg W0 wr (fun k => (Value.slice pm nm cm').ownBlock = some k)) ∧ Hid (Own wr 0 90 encM 6 (.slice pm nm cm') ys)) (fun i _ => nm - (intOf i).toNat)
  case atStart => exact ⟨0, rms, rfl, Nat.zero_le _, EM.out, Chg.refl _ _, (HOM.out.mono0).same (fun k e => HC0.out.block k (HOM.out.lt k e).2 (fun h => h))⟩
  case round =>
    obtain ⟨j, ys, rfl, hj, hyl, hch, hown⟩ := hrel
    have hAx := hch.out.vat HA0.out (fun h => by have := (HOM.out.lt _ h).2; omega)
    have hz := hAx.lt
    have a0 := hAx.cell 0 rfl
    have a1 := hAx.cell 1 rfl
    have a2 := hAx.cell 2 rfl
    have a3 := hAx.cell 3 rfl
    have a4 := hAx.cell 4 rfl
    dsimp only at a0 a1 a2 a3 a4
    clear hAx
    by_cases hlt : j < nm
    · obtain ⟨q, hyq⟩ : ∃ q, ys[j]? = some q := ⟨_, List.getElem?_eq_getElem (by omega)⟩
      obtain ⟨g, hpg, hnn, hgb, hgl, hcell, hfr⟩ := Own.at codecM hown.out hyq
      subst hpg
      have f0 := hcell 0 _ rfl
      have f1 := hcell 1 _ rfl
      have f2 := hcell 2 _ rfl
      have f3 := hcell 3 _ rfl
      have f4 := hcell 4 _ rfl
      have f5 := hcell 5 _ rfl
      rw [Nat.add_zero] at f0
      have hj0 : (0 : Int) ≤ (j : Int) := Int.natCast_nonneg _
      have hj1 : (j : Int) < (nm : Int) := by omega
      have y0 := hfr (j * 6)
      have y1 := hfr (j * 6 + 1)
      have y2 := hfr (j * 6 + 2)
      have y3 := hfr (j * 6 + 3)
      have y4 := hfr (j * 6 + 4)
      have y5 := hfr (j * 6 + 5)
      have hst := Own.storedM hown.out hyq ⟨#[115, 112, 111, 105, 108, 116]⟩ RV.zero
      dsimp only [RV.zero] at hst
      have HST := Lib.hid hst
      clear hcell hfr hst hnn hyq
      go_wp2_with fail
      go_roundw
      case rel => exact ⟨j + 1, _, by go_num, by omega, by simpa using hyl, hch.out.trans (Chg.of_grown HST.out.2 rfl), HST.out.1⟩
      case measure => simp [intOf]; omega
    · obtain rfl : j = nm := by omega
      have hj2 : ¬ ((j : Int) < (j : Int)) := by omega
      have HC1 := Lib.hid hch.out
      have HA1 := Lib.hid (hch.out.vat HA0.out (fun h => by have := (HOM.out.lt _ h).2; omega))
      clear hch hown
      go_wp2_with fail
      go_loopw [5] (fun i w2 => i = .int .i64 0 ∧ w2 = wr) (fun i _ => 0)
      case atStart => exact ⟨rfl, rfl⟩
      case round =>
        obtain ⟨rfl, rfl⟩ := hrel
        clear a0 a1 a2 a3 a4
        have a0 := HA1.out.cell 0 rfl
        have a1 := HA1.out.cell 1 rfl
        have a2 := HA1.out.cell 2 rfl
        have a3 := HA1.out.cell 3 rfl
        have a4 := HA1.out.cell 4 rfl
        dsimp only at a0 a1 a2 a3 a4
        go_wp2_with fail
        go_end0
        exact ⟨rfl, (HC0.out.mono (fun k h => h.elim)).trans HC1.out⟩
end Go.Proofs.Ythgkgjcnmahacaa
end

section
/- Sorted trees: as many values, as great. Plain laws. -/
set_option linter.unusedSimpArgs false
set_option linter.unusedVariables false
namespace Go.Proofs.Ythgkgjcnmahacaa
open Go.RowKit Go.OpenShut

theorem countL_ext : ∀ (l l' : List JV), l'.length = l.length → (∀ (i : Nat) (t u : JV), l[i]? = some t → l'[i]? = some u → countT u = countT t) → countL l' = countL l
  | [], [], _, _ => rfl
  | a :: l, b :: l', h, hc => by
    unfold countL
    rw [hc 0 a b rfl rfl, countL_ext l l' (by simpa using h) (fun i t u h1 h2 => hc (i + 1) t u (by simpa using h1) (by simpa using h2))]
  | [], _ :: _, h, _ => by simp at h
  | _ :: _, [], h, _ => by simp at h
theorem countM_ext : ∀ (l l' : List (ByteArray × JV)), l'.length = l.length → (∀ (i : Nat) (p q : ByteArray × JV), l[i]? = some p → l'[i]? = some q → countT q.2 = countT p.2) → countM l' = countM l
  | [], [], _, _ => rfl
  | (a, x) :: l, (b, y) :: l', h, hc => by
    unfold countM
    rw [hc 0 (a, x) (b, y) rfl rfl, countM_ext l l' (by simpa using h) (fun i t u h1 h2 => hc (i + 1) t u (by simpa using h1) (by simpa using h2))]
  | [], _ :: _, h, _ => by simp at h
  | _ :: _, [], h, _ => by simp at h
theorem countM_perm {l l' : List (ByteArray × JV)} (h : l'.Perm l) : countM l' = countM l := by
  induction h with
  | nil => rfl
  | cons x _ ih => obtain ⟨a, t⟩ := x; unfold countM; rw [ih]
  | swap x y l => obtain ⟨a, t⟩ := x; obtain ⟨b, u⟩ := y; simp only [countM]; omega
  | trans _ _ ih1 ih2 => exact ih1.trans ih2
theorem SortOf.count {t u : JV} (h : SortOf t u) : countT u = countT t := by
  induction h with
  | mk el cl em cn cm st ih1 ih2 =>
    unfold countT
    rw [countL_ext _ _ el ih1, countM_perm st.perm, countM_ext _ _ em ih2]
theorem at_same {α β : Type} {a : List α} {b : List β} (e : b.length = a.length) {i : Nat} {y : β} (h : b[i]? = some y) : ∃ x, a[i]? = some x :=
  ⟨_, List.getElem?_eq_getElem (by have := (List.getElem?_eq_some_iff.1 h).1; omega)⟩
theorem SortOf.ok {t u : JV} (h : SortOf t u) (ot : t.Ok) : u.Ok := by
  induction h with
  | @mk k n s l l' m mm m' el cl em cn cm st ih1 ih2 =>
    cases ot with
    | mk hk hn hs hl hm okl oks okm =>
      have hmm : ∀ p ∈ mm, p.1.size ≤ 140737488351232 ∧ p.2.Ok := fun q hq => by
        obtain ⟨i, hi⟩ := List.getElem?_of_mem hq
        obtain ⟨p, hp⟩ := at_same em hi
        exact ⟨by rw [← cn i p q hp hi]; exact oks i p hp, ih2 i p q hp hi (okm i p hp)⟩
      refine .mk hk hn hs (by omega) (by have := st.perm.length_eq; omega) (fun i x hx => ?_) (fun i p hp => ?_) (fun i p hp => ?_)
      · obtain ⟨a, ha⟩ := at_same el hx
        exact ih1 i a x ha hx (okl i a ha)
      · exact (hmm p (st.perm.mem_iff.1 (List.mem_of_getElem? hp))).1
      · exact (hmm p (st.perm.mem_iff.1 (List.mem_of_getElem? hp))).2
end Go.Proofs.Ythgkgjcnmahacaa
end

section
/- Bytes in a slice of the call's own; a text appended to them; they, turned into a text. Plain laws. -/
set_option linter.unusedSimpArgs false
set_option linter.unusedVariables false
namespace Go.Proofs.Ythgkgjcnmahacaa
open Go Go.RowKit

def encU (b : UInt8) : List Value := [.int .u8 b.toNat]
theorem codecU : Codec encU 1 := ⟨fun _ => rfl, fun x u hu => by
  simp only [encU, List.mem_cons, List.not_mem_nil, or_false] at hu
  subst hu; rfl, by decide⟩
theorem infoU : (Try.prog.info? 5).map (fun i => (i.zero, i.size, i.bytes)) = some (some (.int .u8 0), 1, 1) := by kernel_rfl
theorem slU : SlT Try.prog 112 5 1 1 := SlT.mk Try.underlying112 infoU rfl
/-- A list of bytes as a text. -/
def toB (l : List UInt8) : ByteArray := ⟨l.toArray⟩
theorem toB_inj {a b : List UInt8} (h : toB a = toB b) : a = b := by
  have := congrArg (fun x => x.data.toList) h
  simpa [toB] using this
theorem toB_size (l : List UInt8) : (toB l).size = l.length := by simp [toB, ByteArray.size]
theorem cells_bytes (l : List UInt8) : cellsOf encU l = l.map (fun b => Value.int .u8 b.toNat) := by
  induction l with
  | nil => rfl
  | cons b l ih =>
    unfold cellsOf at ih ⊢
    rw [List.flatMap_cons, ih]
    rfl
theorem cells_str (s : ByteArray) : Lib.strCells s = cellsOf encU s.data.toList := (cells_bytes _).symm
/-- Bytes in a slice of the call's own. -/
abbrev OwnU (w : World) (base : Nat) (v : Value) (l : List UInt8) : Prop := Own w base 5 encU 1 v l

theorem str_len (s : ByteArray) : s.data.toList.length = s.size := Array.length_toList
theorem run_append_str (w : World) (ty : TypeId) {base : Nat} {v : Value} {l : List UInt8} (hown : OwnU w base v l) (s : ByteArray) (hlen : l.length + s.size ≤ 140737488355328) (hbase : base ≤ w.heap.size) :
    ∃ v' w', (Builtin.append_ #[112, 9] ty #[v, .string s]).run Try.prog w = .ok v' w' ∧ OwnU w' base v' (l ++ s.data.toList) ∧ w.grownBy w' v.ownBlock := by
  obtain ⟨i, hi, hz, hs1, hby⟩ := info_parts infoU
  have hO : w.ownsRow base 5 1 v l.length (cellsOf encU l) := hown
  obtain ⟨v', w', hr, h2, h3, _⟩ := Lib.run_append_own_string (P := Try.prog) w base 112 9 ty 5 i Try.underlying112 Try.underlying9 hi hz hs1 hby v l.length (cellsOf encU l) hO s (by unfold maxLen; omega) hlen hbase
  refine ⟨v', w', hr, ?_, h3⟩
  unfold OwnU Own
  rw [cellsOf_append, List.length_append, str_len, ← cells_str]
  exact h2
theorem wpList_append_str {ops : Array Oper} {rest : List Oper} {o : Oper} {a : Act} {Q : Exit → Act → World → Prop} (w : World) (hgd : o.guard = none) (s x : Operand)
    (ho : o.op = .call { callee := .builtin .append, args := #[s, x], argTypes := #[112, 9] }) {base : Nat} {v : Value} {l : List UInt8} {t : ByteArray} (hs : a.eval s = v) (hx : a.eval x = .string t) (hown : OwnU w base v l)
    (hlen : l.length + t.size ≤ 140737488355328) (hbase : base ≤ w.heap.size)
    (h : ∀ v' w', OwnU w' base v' (l ++ t.data.toList) → w.grownBy w' v.ownBlock → wpList Try.prog ops Q rest (a.put o.dst v') w') : wpList Try.prog ops Q (o :: rest) a w := by
  refine wpList_plain hgd fun K hK => ?_
  obtain ⟨v', w', hr, h2, h3⟩ := run_append_str w o.type hown t hlen hbase
  unfold Oper.wp execOp
  simp only [ho, resolve, invoke, builtin, Sem.run_bind, Sem.run_pure, Result.andThen_ok, List.map_toArray, List.map_cons, List.map_nil, hs, hx, hr]
  exact hK _ _ (h v' w' h2 h3)
/-- A row just built, appended: its bytes. -/
theorem rd_bytes {w : World} {g n : Nat} {l : List UInt8} {cs : Array Value} (hg : g < w.heap.size) (h : w.heap[g]? = some (.cells cs 5 (0, 0))) (hc : cs.toList = cellsOf encU l) (hn : n = l.length) (hm : l.length ≤ maxLen) : Rd w w.heap.size encU 1 (.slice (some ⟨g, 0, none⟩) n n) l := by
  subst hn
  exact Rd.block codecU h hc hg hm
/-- The slice's bytes, turned into a text. -/
theorem str_of_own {w : World} {base : Nat} {v : Value} {l : List UInt8} (h : OwnU w base v l) : (convert 112 9 v).run Try.prog w = .ok (.string (toB l)) w := by
  have hO : w.ownsRow base 5 1 v l.length (cellsOf encU l) := h
  rcases hO.2 with ⟨rfl, hn⟩ | ⟨g, cap, cur, rfl, _⟩
  · have : l = [] := List.eq_nil_of_length_eq_zero hn
    subst this
    exact Lib.run_convert_nil_bytes w _ _ _ 0 Try.underlying112 Try.underlying5 Try.underlying9
  · refine run_convert_bytes_back w _ _ _ _ cap l Try.underlying112 Try.underlying5 Try.underlying9 (fun j hj => ?_)
    refine hO.cells (g := g) rfl j _ ?_
    rw [cells_bytes, List.getElem?_map, List.getElem?_eq_getElem hj]
    rfl
end Go.Proofs.Ythgkgjcnmahacaa
end
