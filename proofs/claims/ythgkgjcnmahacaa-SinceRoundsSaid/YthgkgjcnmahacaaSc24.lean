import Derived.Test.YthgkgjcnmahacaaSc23
import Derived.Test.YthgkgjcnmahacaaSc21
import Derived.Test.YthgkgjcnmahacaaSc02
section
/- The law's example of a box: true. -/
set_option linter.unusedSimpArgs false
set_option linter.unusedVariables false
namespace Go.Proofs.Ythgkgjcnmahacaa
open Go.RowKit Go.OpenShut

/-- The example's box: in block g, its lists behind it. -/
structure AwS (w W : World) (g : Nat) (b : BoxD) (r : RB) : Prop where
  box : BoxAt W g r
  new : ∃ base, g < base ∧ base ≤ W.heap.size ∧ NewBox W base 0 b r
  below : Below w.heap.size w W
  ge : w.heap.size ≤ g
section
variable {w W W' : World} {g : Nat} {b : BoxD} {r : RB} (h : AwS w W g b r)
include h
theorem AwS.go (hb : Below W.heap.size W W') : AwS w W' g b r := by
  obtain ⟨base, h1, h2, h3⟩ := h.new
  exact ⟨h.box.under hb h.box.lt, ⟨base, h1, Nat.le_trans h2 hb.size, h3.below hb (Nat.zero_le _)⟩, h.below.trans (hb.mono h.below.size), h.ge⟩
theorem AwS.of : BoxOf W W.heap.size b r := by
  obtain ⟨base, h1, h2, h3⟩ := h.new
  exact h3.box (Nat.zero_le _)
theorem AwS.store {base B : Nat} {b' : BoxD} {q : RB} (hg : g < base) (hb : base ≤ W.heap.size) (hn : NewBox W base B b' q) (hp : Plain b'.objs) : AwS w (((((W.setCell ⟨g, 0, none⟩ (.slice q.po q.no q.co)).setCell ⟨g, 1, none⟩ (.slice q.pt q.nt q.ct)).setCell ⟨g, 2, none⟩ (.int .i64 q.sq)).setCell ⟨g, 3, none⟩ (.int .i64 q.fl)).setCell ⟨g, 4, none⟩ (.int .i64 q.kp)) g b' q := by
  have hne := hn.ne hg
  refine ⟨h.box.stored q, ⟨base, hg, by simpa using hb, (hn.plain hp).kept (grownBy_setB W g q) hne.1 hne.2 (Nat.zero_le _) (Nat.zero_le _)⟩, h.below.grown (grownBy_setB W g q) h.below.size (fun a e => by cases e; exact h.ge), h.ge⟩
theorem AwS.put (hr : Rising b.objs) (ob : b.Ok) {id : ByteArray} {n : Int} (hn : (Lit.int .i64 n).wf = true) (hid : id.size ≤ 140737488351232) {b' : BoxD} (he : putB b id (numT n) = (b', 0)) (hp : Plain b'.objs) :
    Calls Try.prog 22 #[r.val, .string id, .agg #[.int .i64 3, .int .i64 n, .string ⟨#[]⟩, .slice none 0 0, .slice none 0 0]] W fun e w' => ∃ q, e = .returned (.tuple #[RB.val q, .int .i64 0]) ∧ AwS w w' g b r ∧ AwS w (((((w'.setCell ⟨g, 0, none⟩ (.slice q.po q.no q.co)).setCell ⟨g, 1, none⟩ (.slice q.pt q.nt q.ct)).setCell ⟨g, 2, none⟩ (.int .i64 q.sq)).setCell ⟨g, 3, none⟩ (.int .i64 q.fl)).setCell ⟨g, 4, none⟩ (.int .i64 q.kp)) g b' q :=
  (put_any b r id (numT n) ⟨3, n, ⟨#[]⟩, none, 0, 0, none, 0, 0⟩ W h.of hr ob ((num_tree W n).mono (Nat.zero_le _)) (num_ok n hn) hid).mono fun e w' hq => by
    obtain ⟨q, rfl, h1, h2⟩ := hq
    rw [he] at h1 ⊢
    have h3 := h.go h2
    exact ⟨q, rfl, h3, h3.store (base := W.heap.size) h.box.lt h2.size h1 hp⟩
theorem AwS.drop (hr : Rising b.objs) (ob : b.Ok) {id : ByteArray} (hid : id.size ≤ 140737488351232) {b' : BoxD} (he : dropB b id = (b', 0)) (hp : Plain b'.objs) :
    Calls Try.prog 23 #[r.val, .string id] W fun e w' => ∃ q, e = .returned (.tuple #[RB.val q, .int .i64 0]) ∧ AwS w w' g b r ∧ AwS w (((((w'.setCell ⟨g, 0, none⟩ (.slice q.po q.no q.co)).setCell ⟨g, 1, none⟩ (.slice q.pt q.nt q.ct)).setCell ⟨g, 2, none⟩ (.int .i64 q.sq)).setCell ⟨g, 3, none⟩ (.int .i64 q.fl)).setCell ⟨g, 4, none⟩ (.int .i64 q.kp)) g b' q :=
  (drop_any b r id W h.of hr ob hid).mono fun e w' hq => by
    obtain ⟨q, rfl, h1, h2⟩ := hq
    rw [he] at h1 ⊢
    have h3 := h.go h2
    exact ⟨q, rfl, h3, h3.store (base := W.heap.size) h.box.lt h2.size h1 hp⟩
end

set_option maxRecDepth 200000 in
set_option maxHeartbeats 8000000 in
theorem awake18_any (w : World) : Calls Try.prog 18 #[] w fun e w' => e = .returned (.bool true) ∧ Below w.heap.size w w' := by
  go_enter Try.func18, Try.ntmps18
  go_upto_region 2 with (go_at_call 29; refine (new_any 0 2 _).mono ?_; rintro e w1 ⟨rfl, hb1⟩)
  have hS0 : AwS w (w1.alloc (.cells #[.slice (newR 0 2).po (newR 0 2).no (newR 0 2).co, .slice (newR 0 2).pt (newR 0 2).nt (newR 0 2).ct, .int .i64 (newR 0 2).sq, .int .i64 (newR 0 2).fl, .int .i64 (newR 0 2).kp] 35)) w1.heap.size ⟨[], [], 0, 0, 2⟩ (newR 0 2) :=
    ⟨heap_alloc_at rfl, ⟨w1.heap.size + 1, by omega, by simp, ⟨⟨[], Own.nil _ _ _, MemsOf.nil _ _⟩, Own.nil _ _ _, fun e h => by simp at h, rfl, rfl, rfl⟩⟩, hb1.alloc hb1.size _, hb1.size⟩
  obtain ⟨W0, hW0⟩ : ∃ W0, (w1.alloc (.cells #[.slice (newR 0 2).po (newR 0 2).no (newR 0 2).co, .slice (newR 0 2).pt (newR 0 2).nt (newR 0 2).ct, .int .i64 (newR 0 2).sq, .int .i64 (newR 0 2).fl, .int .i64 (newR 0 2).kp] 35)) = W0 := ⟨_, rfl⟩
  obtain ⟨g, hg⟩ : ∃ g, w1.heap.size = g := ⟨_, rfl⟩
  obtain ⟨r0, hr0⟩ : ∃ r, newR 0 2 = r := ⟨_, rfl⟩
  rw [hr0] at hW0 hS0
  rw [hr0, hW0, hg]
  rw [hW0, hg] at hS0
  clear hW0 hg hr0 hb1
  have HSD := Lib.hid (hS0.go (Below.refl _ _).drew)
  have hzg := hS0.box.lt
  have c0 := hS0.box.cell 0 rfl
  have c1 := hS0.box.cell 1 rfl
  have c2 := hS0.box.cell 2 rfl
  have c3 := hS0.box.cell 3 rfl
  have c4 := hS0.box.cell 4 rfl
  clear hS0
  go_cut [2] from 9 to 15 (fun v wr => v = .int .i64 0 ∧ ∃ q, AwS w wr g b18_1 q)
  case first =>
    go_region_law (first
      | (go_simp; go_at_call 56; refine (num_any _ _).mono ?_; rintro e w1 ⟨rfl, hb1⟩; (have HS1 := Lib.hid (HSD.out.go hb1)); (have d0 := HS1.out.box.cell 0 rfl); (have d1 := HS1.out.box.cell 1 rfl); (have d2 := HS1.out.box.cell 2 rfl); (have d3 := HS1.out.box.cell 3 rfl); (have d4 := HS1.out.box.cell 4 rfl))
      | (go_simp; go_at_call 22; refine (HS1.out.put rise0 b18_ok0 (by decide) (by decide) put18_1 plain1).mono ?_; rintro e w2 ⟨q, rfl, h2, h3⟩; (have HS2 := Lib.hid h2); (have HS3 := Lib.hid h3); clear h2 h3; (have f0 := HS2.out.box.cell 0 rfl); (have f1 := HS2.out.box.cell 1 rfl); (have f2 := HS2.out.box.cell 2 rfl); (have f3 := HS2.out.box.cell 3 rfl); (have f4 := HS2.out.box.cell 4 rfl); (have x0 := HS2.out.box.frozen 0); (have x1 := HS2.out.box.frozen 1); (have x2 := HS2.out.box.frozen 2); (have x3 := HS2.out.box.frozen 3); (have x4 := HS2.out.box.frozen 4)))
    all_goals go_wp2_with fail
    all_goals (
      go_meet
      exact ⟨rfl, q, HS3.out⟩)
  case rest =>
  obtain ⟨rfl, r1, hS1⟩ := hcut
  clear HSD hzg c0 c1 c2 c3 c4
  go_upto_region 3 with fail
  have HSD := Lib.hid (hS1.go (Below.refl _ _).drew)
  have hzg := hS1.box.lt
  have c0 := hS1.box.cell 0 rfl
  have c1 := hS1.box.cell 1 rfl
  have c2 := hS1.box.cell 2 rfl
  have c3 := hS1.box.cell 3 rfl
  have c4 := hS1.box.cell 4 rfl
  clear hS1
  go_cut [3] from 15 to 21 (fun v wr => v = .int .i64 0 ∧ ∃ q, AwS w wr g b18_2 q)
  case first =>
    go_region_law (first
      | (go_simp; go_at_call 56; refine (num_any _ _).mono ?_; rintro e w1 ⟨rfl, hb1⟩; (have HS1 := Lib.hid (HSD.out.go hb1)); (have d0 := HS1.out.box.cell 0 rfl); (have d1 := HS1.out.box.cell 1 rfl); (have d2 := HS1.out.box.cell 2 rfl); (have d3 := HS1.out.box.cell 3 rfl); (have d4 := HS1.out.box.cell 4 rfl))
      | (go_simp; go_at_call 22; refine (HS1.out.put (rise1 _) b18_ok1 (by decide) (by decide) put18_2 plain2).mono ?_; rintro e w2 ⟨q, rfl, h2, h3⟩; (have HS2 := Lib.hid h2); (have HS3 := Lib.hid h3); clear h2 h3; (have f0 := HS2.out.box.cell 0 rfl); (have f1 := HS2.out.box.cell 1 rfl); (have f2 := HS2.out.box.cell 2 rfl); (have f3 := HS2.out.box.cell 3 rfl); (have f4 := HS2.out.box.cell 4 rfl); (have x0 := HS2.out.box.frozen 0); (have x1 := HS2.out.box.frozen 1); (have x2 := HS2.out.box.frozen 2); (have x3 := HS2.out.box.frozen 3); (have x4 := HS2.out.box.frozen 4)))
    all_goals go_wp2_with fail
    all_goals (
      go_meet
      exact ⟨rfl, q, HS3.out⟩)
  case rest =>
  obtain ⟨rfl, r2, hS2⟩ := hcut
  clear HSD hzg c0 c1 c2 c3 c4
  go_upto_region 4 with fail
  have HSD := Lib.hid (hS2.go (Below.refl _ _).drew)
  have hzg := hS2.box.lt
  have c0 := hS2.box.cell 0 rfl
  have c1 := hS2.box.cell 1 rfl
  have c2 := hS2.box.cell 2 rfl
  have c3 := hS2.box.cell 3 rfl
  have c4 := hS2.box.cell 4 rfl
  clear hS2
  go_cut [4] from 21 to 27 (fun v wr => v = .int .i64 0 ∧ ∃ q, AwS w wr g b18_2 q)
  case first =>
    go_region_law (first
      | (go_simp; go_at_call 56; refine (num_any _ _).mono ?_; rintro e w1 ⟨rfl, hb1⟩; (have HS1 := Lib.hid (HSD.out.go hb1)); (have d0 := HS1.out.box.cell 0 rfl); (have d1 := HS1.out.box.cell 1 rfl); (have d2 := HS1.out.box.cell 2 rfl); (have d3 := HS1.out.box.cell 3 rfl); (have d4 := HS1.out.box.cell 4 rfl))
      | (go_simp; go_at_call 22; refine (HS1.out.put rise2 b18_ok2 (by decide) (by decide) put18_3 plain2).mono ?_; rintro e w2 ⟨q, rfl, h2, h3⟩; (have HS2 := Lib.hid h2); (have HS3 := Lib.hid h3); clear h2 h3; (have f0 := HS2.out.box.cell 0 rfl); (have f1 := HS2.out.box.cell 1 rfl); (have f2 := HS2.out.box.cell 2 rfl); (have f3 := HS2.out.box.cell 3 rfl); (have f4 := HS2.out.box.cell 4 rfl); (have x0 := HS2.out.box.frozen 0); (have x1 := HS2.out.box.frozen 1); (have x2 := HS2.out.box.frozen 2); (have x3 := HS2.out.box.frozen 3); (have x4 := HS2.out.box.frozen 4)))
    all_goals go_wp2_with fail
    all_goals (
      go_meet
      exact ⟨rfl, q, HS3.out⟩)
  case rest =>
  obtain ⟨rfl, r3, hS3⟩ := hcut
  clear HSD hzg c0 c1 c2 c3 c4
  go_upto_region 5 with fail
  have hzg := hS3.box.lt
  have c0 := hS3.box.cell 0 rfl
  have c1 := hS3.box.cell 1 rfl
  have c2 := hS3.box.cell 2 rfl
  have c3 := hS3.box.cell 3 rfl
  have c4 := hS3.box.cell 4 rfl
  have HD := Lib.hid (hS3.drop rise2 b18_ok2 (by decide) drop18_4 plain3)
  clear hS3
  go_upto_region 6 with (go_at_call 23; refine HD.out.mono ?_; rintro e w2 ⟨r4, rfl, h2, h3⟩; clear c0 c1 c2 c3 c4; (have HS2 := Lib.hid h2); (have HS3 := Lib.hid h3); clear h2 h3; (have c0 := HS2.out.box.cell 0 rfl); (have c1 := HS2.out.box.cell 1 rfl); (have c2 := HS2.out.box.cell 2 rfl); (have c3 := HS2.out.box.cell 3 rfl); (have c4 := HS2.out.box.cell 4 rfl); (have x0 := HS2.out.box.frozen 0); (have x1 := HS2.out.box.frozen 1); (have x2 := HS2.out.box.frozen 2); (have x3 := HS2.out.box.frozen 3); (have x4 := HS2.out.box.frozen 4))
  obtain ⟨W4, hW4⟩ : ∃ W4, (((((w2.setCell ⟨g, 0, none⟩ (.slice r4.po r4.no r4.co)).setCell ⟨g, 1, none⟩ (.slice r4.pt r4.nt r4.ct)).setCell ⟨g, 2, none⟩ (.int .i64 r4.sq)).setCell ⟨g, 3, none⟩ (.int .i64 r4.fl)).setCell ⟨g, 4, none⟩ (.int .i64 r4.kp)) = W4 := ⟨_, rfl⟩
  rw [hW4] at HS3 ⊢
  clear hW4 HS2 c0 c1 c2 c3 c4 x0 x1 x2 x3 x4 HD hzg
  have hS4 := HS3.out
  have hzg := hS4.box.lt
  have c0 := hS4.box.cell 0 rfl
  have c1 := hS4.box.cell 1 rfl
  have c2 := hS4.box.cell 2 rfl
  have c3 := hS4.box.cell 3 rfl
  have c4 := hS4.box.cell 4 rfl
  have HE := Lib.hid (drop_any b18_3 r4 nA W4 hS4.of (rise1 _) b18_ok3 (by decide))
  rw [drop18_5] at HE
  clear hS4
  go_upto_region 7 with (go_at_call 23; refine HE.out.mono ?_; rintro e w5 ⟨q5, rfl, h5, hb5⟩)
  have hS5 := HS3.out.go (hb5.alloc hb5.size (.cells #[.slice q5.po q5.no q5.co, .slice q5.pt q5.nt q5.ct, .int .i64 q5.sq, .int .i64 q5.fl, .int .i64 q5.kp] 35))
  obtain ⟨W5, hW5⟩ : ∃ W5, w5.alloc (.cells #[.slice q5.po q5.no q5.co, .slice q5.pt q5.nt q5.ct, .int .i64 q5.sq, .int .i64 q5.fl, .int .i64 q5.kp] 35) = W5 := ⟨_, rfl⟩
  rw [hW5] at hS5 ⊢
  clear hW5 h5 hb5 HE hzg c0 c1 c2 c3 c4 HS3
  have hof := hS5.of
  have e1 : r4.sq = 3 := hof.seq.symm
  have e2 : r4.fl = 1 := hof.floor.symm
  have e3 : r4.nt = 2 := hof.trail.nlen.symm
  obtain ⟨po, no, co, pt, nt, ct, sq, fl, kp⟩ := r4
  dsimp only at e1 e2 e3
  subst e1 e2 e3
  have hzg := hS5.box.lt
  have c0 := hS5.box.cell 0 rfl
  have c1 := hS5.box.cell 1 rfl
  have c2 := hS5.box.cell 2 rfl
  have c3 := hS5.box.cell 3 rfl
  have c4 := hS5.box.cell 4 rfl
  dsimp only at c0 c1 c2 c3 c4
  have HI := Lib.hid (ids_any b18_3 ⟨po, no, co, pt, 2, ct, 3, 1, kp⟩ W5 hof b18_ok3)
  have HS5 := Lib.hid hS5
  clear hof hS5
  go_wp2_with fail
  refine HI.out.mono ?_
  rintro e w6 ⟨u, rfl, ho6, hb6⟩
  have hR1 : Rd (w6.alloc (.cells #[.string ⟨#[98]⟩] 9)) (w6.heap.size + 1) encS 1 u [nB] := (ho6.rd codecS).below ((Below.refl _ _).alloc (Nat.le_refl _) _) (by omega)
  have hR2 : Rd (w6.alloc (.cells #[.string ⟨#[98]⟩] 9)) (w6.heap.size + 1) encS 1 (.slice (some ⟨w6.heap.size, 0, none⟩) 1 1) [nB] := Rd.one codecS (heap_alloc_at rfl) rfl (by omega)
  have hP := sameParts_any _ _ _ _ _ _ hR1 hR2
  rw [decide_eq_true rfl] at hP
  have HP := Lib.hid hP
  have HB6 := Lib.hid hb6
  clear hR1 hR2 hP ho6 hb6
  go_wp2_with fail
  refine HP.out.mono ?_
  rintro e w7 ⟨rfl, n7, rfl⟩
  have HS7 := HS5.out.go (bdn (HB6.out.alloc HB6.out.size (.cells #[.string ⟨#[98]⟩] 9)) n7)
  clear c0 c1 c2 c3 c4
  have hz7 := HS7.box.lt
  have c0 := HS7.box.cell 0 rfl
  have c1 := HS7.box.cell 1 rfl
  have c2 := HS7.box.cell 2 rfl
  have c3 := HS7.box.cell 3 rfl
  have c4 := HS7.box.cell 4 rfl
  dsimp only at c0 c1 c2 c3 c4
  have hQ := (rightS_any b18_3 ⟨po, no, co, pt, 2, ct, 3, 1, kp⟩ _ HS7.of b18_ok3).mono fun e w' h => h.yes right18
  have HQ := Lib.hid hQ
  have HS7 := Lib.hid HS7
  clear hQ
  go_wp2_with fail
  refine HQ.out.mono ?_
  rintro e w8 ⟨rfl, hb8⟩
  go_wp2_with fail
  go_ret
  exact ⟨rfl, (HS7.out.go hb8).below⟩
end Go.Proofs.Ythgkgjcnmahacaa
end

section
/- Whether a value has but what its kind has; how many values it has: some answer. -/
set_option linter.unusedSimpArgs false
set_option linter.unusedVariables false
namespace Go.Proofs.Ythgkgjcnmahacaa
open Go.RowKit Go.OpenShut

/-- Some truth is told. -/
def SomeB (w : World) (e : Ending) (w' : World) : Prop := ∃ b : Bool, e = .returned (.bool b) ∧ Below w.heap.size w w'
/-- Some number is told. -/
def SomeI (w : World) (e : Ending) (w' : World) : Prop := ∃ n : Int, e = .returned (.int .i64 n) ∧ Below w.heap.size w w'

set_option maxRecDepth 100000 in
set_option maxHeartbeats 2000000 in
theorem own7_any (N : Nat) : ∀ (t : JV) (r : RV) (w : World), SizeOf.sizeOf t ≤ N → TreeOf w w.heap.size t r → t.Ok →
    Calls Try.prog 62 #[r.val] w (SomeB w) := by
  induction N with
  | zero => intro t r w hN; cases t; simp at hN
  | succ N ih =>
    intro t r w hN ht ot
    cases ht with
    | @mk _ l m rs rms hl el hcl hm em hcn hcm =>
    obtain ⟨k, n, s, pl, nl, cl, pm, nm, cm⟩ := r
    cases ot with
    | mk _ _ _ bl bm okl oks okm =>
    dsimp only [RV.val] at *
    have eL := rd_nlen hl
    have eM := rd_nlen hm
    have HT : Hid (∀ (i : Nat) t q, l[i]? = some t → rs[i]? = some q → ∀ W, Below w.heap.size w W → Calls Try.prog 62 #[q.val] W (SomeB W)) :=
      fun i t q h1 h2 W hb => ih t q W (by have := JV.lt_l (k := k) (n := n) (s := s) (m := m) h1; omega) ((hcl i t q h1 h2).under hb hb.size) (okl i t h1)
    have HS : Hid (∀ (i : Nat) p q, m[i]? = some p → rms[i]? = some q → ∀ W, Below w.heap.size w W → Calls Try.prog 62 #[q.v.val] W (SomeB W)) :=
      fun i p q h1 h2 W hb => ih p.2 q.v W (by have := JV.lt_m (k := k) (n := n) (s := s) (l := l) h1; omega) ((hcm i p q h1 h2).under hb hb.size) (okm i p h1)
    have HL := Lib.hid hl
    have HM := Lib.hid hm
    have E1 : Hid (l.length = nl ∧ rs.length = nl) := ⟨by omega, by omega⟩
    have E2 : Hid (m.length = nm ∧ rms.length = nm) := ⟨by omega, by omega⟩
    have hnl : nl ≤ 1759218604390 := by omega
    have hnm : nm ≤ 1466015503658 := by omega
    have hA0 : VAt (w.alloc (.cells #[.int .i64 k, .int .i64 n, .string s, .slice pl nl cl, .slice pm nm cm] 25)) w.heap.size ⟨k, n, s, pl, nl, cl, pm, nm, cm⟩ := heap_alloc_at rfl
    have hB0 : Below w.heap.size w (w.alloc (.cells #[.int .i64 k, .int .i64 n, .string s, .slice pl nl cl, .slice pm nm cm] 25)) := (Below.refl _ _).alloc (Nat.le_refl _) _
    clear ih hcl hcn hcm hl hm okl oks okm el em bl bm eL eM hN
    go_enter Try.func62, Try.ntmps62
    go_upto_region 1 with fail
    obtain ⟨W0, hW0⟩ : ∃ W0, (w.alloc (.cells #[.int .i64 k, .int .i64 n, .string s, .slice pl nl cl, .slice pm nm cm] 25)) = W0 := ⟨_, rfl⟩
    rw [hW0] at hA0 hB0 ⊢
    clear hW0
    have hz := hA0.lt
    have c0 := hA0.cell 0 rfl
    have c3 := hA0.cell 3 rfl
    have c4 := hA0.cell 4 rfl
    dsimp only at c0 c3 c4
    have HA := Lib.hid hA0
    clear hA0
    go_cut [24] from 5 to 24 (fun v wr => ∃ b : Bool, v = .bool b ∧ wr = W0)
    case first =>
      cases h5 : (k != 5) <;> cases h6 : (k != 6) <;> by_cases p1 : 0 < nl <;> by_cases p2 : 0 < nm
      all_goals go_wp2_with fail
      all_goals (go_meet; exact ⟨_, rfl, rfl⟩)
    case rest =>
    obtain ⟨b, rfl, rfl⟩ := hcut
    cases b with
    | true =>
      go_wp2_with fail
      go_ret
      exact ⟨false, rfl, hB0⟩
    | false =>
      go_wp2_with fail
      go_loopw [3] (fun i wr => ∃ j : Nat, j ≤ nl ∧ i = .int .i64 j ∧ Below wc.heap.size wc wr) (fun i _ => nl - (intOf i).toNat)
      case atStart => exact ⟨0, Nat.zero_le _, rfl, Below.refl _ _⟩
      case round =>
        obtain ⟨j, hj, rfl, hbr⟩ := hrel
        have c3 := bcs hbr hz c3
        have hbw : Below w.heap.size w wr := hB0.trans (hbr.mono hB0.size)
        by_cases hlt : j < nl
        · obtain ⟨tx, htx⟩ : ∃ x, l[j]? = some x := ⟨_, List.getElem?_eq_getElem (by have := E1.out; omega)⟩
          obtain ⟨x, hx⟩ : ∃ x, rs[j]? = some x := ⟨_, List.getElem?_eq_getElem (by have := E1.out; omega)⟩
          obtain ⟨b1, o1, rfl, hb1, hc1⟩ := rd_at' (HL.out.below hbw (Nat.le_refl _)) hx
          have f0 := hc1 0 _ rfl
          have f1 := hc1 1 _ rfl
          have f2 := hc1 2 _ rfl
          have f3 := hc1 3 _ rfl
          have f4 := hc1 4 _ rfl
          rw [Nat.add_zero] at f0
          have HC := Lib.hid (HT.out j tx x htx hx)
          have hk0 : (0 : Int) ≤ (j : Int) := Int.natCast_nonneg _
          have hk1 : (j : Int) < (nl : Int) := by omega
          have hzr : wc.heap.size ≤ wr.heap.size := hbr.size
          have HBR := Lib.hid hbr
          clear hc1 htx hx hbr
          go_wp2_with (go_at_call 62; refine (HC.out _ hbw).mono ?_; rintro e w1 ⟨b, rfl, hb1'⟩; cases b)
          · go_ret
            exact ⟨false, rfl, hbw.trans (hb1'.mono hbw.size)⟩
          · go_roundw
            case rel => exact ⟨j + 1, by omega, by go_num, HBR.out.trans (hb1'.mono (by omega))⟩
            case measure => simp [intOf]; omega
        · obtain rfl : j = nl := by omega
          have hz1 : wc.heap.size ≤ wr.heap.size := hbr.size
          have c4 := bcs hbr hz c4
          clear HT HL E1 hbr
          obtain ⟨wo, rfl⟩ : ∃ wo : World, wo = wr := ⟨_, rfl⟩
          go_wp2_with fail
          clear c3
          go_loopw [4] (fun i wq => ∃ j : Nat, j ≤ nm ∧ i = .int .i64 j ∧ Below wo.heap.size wo wq) (fun i _ => nm - (intOf i).toNat)
          case atStart => exact ⟨0, Nat.zero_le _, rfl, Below.refl _ _⟩
          case round =>
            obtain ⟨wq, rfl⟩ : ∃ wq : World, wq = wr := ⟨_, rfl⟩
            obtain ⟨j, hj, rfl, hbr⟩ := hrel
            have hbw2 : Below w.heap.size w wq := hbw.trans (hbr.mono (by omega))
            have c4 := bcs hbr (by omega) c4
            by_cases hlt : j < nm
            · obtain ⟨tx, htx⟩ : ∃ x, m[j]? = some x := ⟨_, List.getElem?_eq_getElem (by have := E2.out; omega)⟩
              obtain ⟨x, hx⟩ : ∃ x, rms[j]? = some x := ⟨_, List.getElem?_eq_getElem (by have := E2.out; omega)⟩
              obtain ⟨b1, o1, rfl, hb1, hc1⟩ := rd_at' (HM.out.below hbw2 (Nat.le_refl _)) hx
              have f0 := hc1 0 _ rfl
              have f1 := hc1 1 _ rfl
              have f2 := hc1 2 _ rfl
              have f3 := hc1 3 _ rfl
              have f4 := hc1 4 _ rfl
              have f5 := hc1 5 _ rfl
              rw [Nat.add_zero] at f0
              have HC := Lib.hid (HS.out j tx x htx hx)
              have hk0 : (0 : Int) ≤ (j : Int) := Int.natCast_nonneg _
              have hk1 : (j : Int) < (nm : Int) := by omega
              have hzr : wc.heap.size ≤ wq.heap.size := by have := hbr.size; omega
              have hzq : wo.heap.size ≤ wq.heap.size := hbr.size
              have HBR := Lib.hid hbr
              clear hc1 htx hx hbr
              go_wp2_with (go_at_call 62; refine (HC.out _ hbw2).mono ?_; rintro e w1 ⟨b, rfl, hb1'⟩; cases b)
              · go_ret
                exact ⟨false, rfl, hbw2.trans (hb1'.mono hbw2.size)⟩
              · go_roundw
                case rel => exact ⟨j + 1, by omega, by go_num, HBR.out.trans (hb1'.mono (by omega))⟩
                case measure => simp [intOf]; omega
            · obtain rfl : j = nm := by omega
              go_wp2_with fail
              go_ret
              exact ⟨true, rfl, hbw2⟩
end Go.Proofs.Ythgkgjcnmahacaa
end

section
/- How many values a value has, within bounds: some number is told. -/
set_option linter.unusedSimpArgs false
set_option linter.unusedVariables false
namespace Go.Proofs.Ythgkgjcnmahacaa
open Go.RowKit Go.OpenShut

set_option maxRecDepth 100000 in
set_option maxHeartbeats 2000000 in
theorem count7_any (N : Nat) : ∀ (t : JV) (r : RV) (most : Int) (w : World), SizeOf.sizeOf t ≤ N → TreeOf w w.heap.size t r → t.Ok →
    Calls Try.prog 61 #[r.val, .int .i64 most] w (SomeI w) := by
  induction N with
  | zero => intro t r most w hN; cases t; simp at hN
  | succ N ih =>
    intro t r most w hN ht ot
    cases ht with
    | @mk _ l m rs rms hl el hcl hm em hcn hcm =>
    obtain ⟨k, n, s, pl, nl, cl, pm, nm, cm⟩ := r
    cases ot with
    | mk _ _ _ bl bm okl oks okm =>
    dsimp only [RV.val] at *
    have eL := rd_nlen hl
    have eM := rd_nlen hm
    have HT : Hid (∀ (i : Nat) t q, l[i]? = some t → rs[i]? = some q → ∀ W, Below w.heap.size w W → ∀ most, Calls Try.prog 61 #[q.val, .int .i64 most] W (SomeI W)) :=
      fun i t q h1 h2 W hb most => ih t q most W (by have := JV.lt_l (k := k) (n := n) (s := s) (m := m) h1; omega) ((hcl i t q h1 h2).under hb hb.size) (okl i t h1)
    have HS : Hid (∀ (i : Nat) p q, m[i]? = some p → rms[i]? = some q → ∀ W, Below w.heap.size w W → ∀ most, Calls Try.prog 61 #[q.v.val, .int .i64 most] W (SomeI W)) :=
      fun i p q h1 h2 W hb most => ih p.2 q.v most W (by have := JV.lt_m (k := k) (n := n) (s := s) (l := l) h1; omega) ((hcm i p q h1 h2).under hb hb.size) (okm i p h1)
    have HL := Lib.hid hl
    have HM := Lib.hid hm
    have E1 : Hid (l.length = nl ∧ rs.length = nl) := ⟨by omega, by omega⟩
    have E2 : Hid (m.length = nm ∧ rms.length = nm) := ⟨by omega, by omega⟩
    have hnl : nl ≤ 1759218604390 := by omega
    have hnm : nm ≤ 1466015503658 := by omega
    have hA0 : VAt (w.alloc (.cells #[.int .i64 k, .int .i64 n, .string s, .slice pl nl cl, .slice pm nm cm] 25)) w.heap.size ⟨k, n, s, pl, nl, cl, pm, nm, cm⟩ := heap_alloc_at rfl
    have hB0 : Below w.heap.size w (w.alloc (.cells #[.int .i64 k, .int .i64 n, .string s, .slice pl nl cl, .slice pm nm cm] 25)) := (Below.refl _ _).alloc (Nat.le_refl _) _
    clear ih hcl hcn hcm hl hm okl oks okm el em bl bm eL eM hN
    go_enter Try.func61, Try.ntmps61
    go_upto_region 1 with fail
    obtain ⟨W0, hW0⟩ : ∃ W0, (w.alloc (.cells #[.int .i64 k, .int .i64 n, .string s, .slice pl nl cl, .slice pm nm cm] 25)) = W0 := ⟨_, rfl⟩
    rw [hW0] at hA0 hB0 ⊢
    clear hW0
    have hz := hA0.lt
    have c3 := hA0.cell 3 rfl
    have c4 := hA0.cell 4 rfl
    dsimp only at c3 c4
    clear hA0
    go_wp2_with fail
    go_loopw [5, 6] (fun a i wr => ∃ (g : Int) (j : Nat), j ≤ nl ∧ a = .int .i64 g ∧ i = .int .i64 j ∧ Below W0.heap.size W0 wr) (fun _ i _ => nl - (intOf i).toNat)
    case atStart => exact ⟨1, 0, Nat.zero_le _, rfl, rfl, Below.refl _ _⟩
    case round =>
      obtain ⟨g, j, hj, rfl, rfl, hbr⟩ := hrel
      have c3 := bcs hbr hz c3
      have hbw : Below w.heap.size w wr := hB0.trans (hbr.mono hB0.size)
      obtain ⟨wo, rfl⟩ : ∃ wo : World, wo = wr := ⟨_, rfl⟩
      by_cases hgo : j < nl ∧ g ≤ most
      · obtain ⟨hlt, hgm⟩ := hgo
        obtain ⟨tx, htx⟩ : ∃ x, l[j]? = some x := ⟨_, List.getElem?_eq_getElem (by have := E1.out; omega)⟩
        obtain ⟨x, hx⟩ : ∃ x, rs[j]? = some x := ⟨_, List.getElem?_eq_getElem (by have := E1.out; omega)⟩
        obtain ⟨b1, o1, rfl, hb1, hc1⟩ := rd_at' (HL.out.below hbw (Nat.le_refl _)) hx
        have f0 := hc1 0 _ rfl
        have f1 := hc1 1 _ rfl
        have f2 := hc1 2 _ rfl
        have f3 := hc1 3 _ rfl
        have f4 := hc1 4 _ rfl
        rw [Nat.add_zero] at f0
        have HC := Lib.hid (HT.out j tx x htx hx)
        have hk0 : (0 : Int) ≤ (j : Int) := Int.natCast_nonneg _
        have hk1 : (j : Int) < (nl : Int) := by omega
        have hzr : W0.heap.size ≤ wo.heap.size := hbr.size
        have HBR := Lib.hid hbr
        clear hc1 htx hx hbr
        go_wp2_with (go_at_call 61; refine (HC.out _ hbw _).mono ?_; rintro e w1 ⟨d, rfl, hb1'⟩)
        go_roundw
        case rel => exact ⟨_, j + 1, by omega, rfl, by go_num, HBR.out.trans (hb1'.mono (by omega))⟩
        case measure => simp [intOf]; omega
      · have hz1 : W0.heap.size ≤ wo.heap.size := hbr.size
        have c4 := bcs hbr hz c4
        clear HT HL E1 hbr
        by_cases p1 : j < nl
        all_goals (try (have hgm : ¬ g ≤ most := fun h => hgo ⟨p1, h⟩))
        all_goals clear hgo
        all_goals go_wp2_with fail
        all_goals clear c3
        all_goals (
        go_loopw [5, 7] (fun a i wq => ∃ (g : Int) (j : Nat), j ≤ nm ∧ a = .int .i64 g ∧ i = .int .i64 j ∧ Below wo.heap.size wo wq) (fun _ i _ => nm - (intOf i).toNat)
        case atStart => exact ⟨g, 0, Nat.zero_le _, rfl, rfl, Below.refl _ _⟩
        case round =>
          obtain ⟨g, j, hj, rfl, rfl, hbr⟩ := hrel
          have hbw2 : Below w.heap.size w wr := hbw.trans (hbr.mono (by omega))
          have c4 := bcs hbr (by omega) c4
          obtain ⟨w3, rfl⟩ : ∃ w3 : World, w3 = wr := ⟨_, rfl⟩
          by_cases hgo : j < nm ∧ g ≤ most
          · obtain ⟨hlt, hgm⟩ := hgo
            obtain ⟨tx, htx⟩ : ∃ x, m[j]? = some x := ⟨_, List.getElem?_eq_getElem (by have := E2.out; omega)⟩
            obtain ⟨x, hx⟩ : ∃ x, rms[j]? = some x := ⟨_, List.getElem?_eq_getElem (by have := E2.out; omega)⟩
            obtain ⟨b1, o1, rfl, hb1, hc1⟩ := rd_at' (HM.out.below hbw2 (Nat.le_refl _)) hx
            have f0 := hc1 0 _ rfl
            have f1 := hc1 1 _ rfl
            have f2 := hc1 2 _ rfl
            have f3 := hc1 3 _ rfl
            have f4 := hc1 4 _ rfl
            have f5 := hc1 5 _ rfl
            rw [Nat.add_zero] at f0
            have HC := Lib.hid (HS.out j tx x htx hx)
            have hk0 : (0 : Int) ≤ (j : Int) := Int.natCast_nonneg _
            have hk1 : (j : Int) < (nm : Int) := by omega
            have HBR := Lib.hid hbr
            have hzq : wo.heap.size ≤ w3.heap.size := hbr.size
            clear hc1 htx hx hbr
            go_wp2_with (go_at_call 61; refine (HC.out _ hbw2 _).mono ?_; rintro e w1 ⟨d, rfl, hb1'⟩)
            go_roundw
            case rel => exact ⟨_, j + 1, by omega, rfl, by go_num, HBR.out.trans (hb1'.mono (by omega))⟩
            case measure => simp [intOf]; omega
          · by_cases p1 : j < nm
            all_goals (try (have hgm : ¬ g ≤ most := fun h => hgo ⟨p1, h⟩))
            all_goals clear hgo
            all_goals go_wp2_with fail
            all_goals go_ret
            all_goals exact ⟨_, rfl, hbw2⟩)
end Go.Proofs.Ythgkgjcnmahacaa
end
