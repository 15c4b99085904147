import Derived.Test.YthgkgjcnmahacaaSc35
import Derived.Test.YthgkgjcnmahacaaSc27
import Derived.Deep.CutBlock
section
/- What changed is one thing for a box, a number and a bound; boxes and changes that are apart while lists are written over. -/
set_option linter.unusedSimpArgs false
set_option linter.unusedVariables false
namespace Go.Proofs.Ythgkgjcnmahacaa
open Go.RowKit Go.OpenShut

theorem split_last {β : Type} (cf : β → β → Int) (p : β) : ∀ zs : List β, ∃ A B, zs.reverse = A ++ B ∧ (∀ a, A.getLast? = some a → ¬ cf p a < 0) ∧ ∀ b ∈ B, cf p b < 0
  | [] => ⟨[], [], rfl, fun a h => by simp at h, fun b h => by simp at h⟩
  | z :: zs => by
    by_cases h : cf p z < 0
    · obtain ⟨A, B, h1, h2, h3⟩ := split_last cf p zs
      refine ⟨A, B ++ [z], by rw [List.reverse_cons, h1, List.append_assoc], h2, fun b hb => ?_⟩
      rcases List.mem_append.1 hb with hb | hb
      · exact h3 b hb
      · rw [List.mem_singleton.1 hb]; exact h
    · refine ⟨(z :: zs).reverse, [], by simp, fun a ha => ?_, fun b h => by simp at h⟩
      rw [List.reverse_cons, List.getLast?_append] at ha
      simp at ha
      rw [← ha]
      exact h
theorem stable_exists {β : Type} {cf : β → β → Int} (C : Cmp cf) : ∀ zs : List β, ∃ ys, IsStable cf zs.reverse ys
  | [] => ⟨[], IsStable.nil⟩
  | z :: zs => by
    obtain ⟨ys, hy⟩ := stable_exists C zs
    obtain ⟨A, B, h1, h2, h3⟩ := split_last cf z ys.reverse
    rw [List.reverse_reverse] at h1
    rw [h1] at hy
    rw [List.reverse_cons]
    exact ⟨_, IsStable.snoc C hy h2 h3⟩
/-- What changed, one and the same at each asking. -/
theorem changes_fix (b : BoxD) (seq most : Int) (ob : b.Ok) (hwm : (Lit.int .i64 most).wf = true) :
    ∃ (er : Int) (dd : ChD), ∀ (r : RB) (w : World), BoxOf w w.heap.size b r → Calls Try.prog 42 #[r.val, .int .i64 seq, .int .i64 most] w fun e w' => ∃ rc, e = .returned (.tuple #[RC.val rc, .int .i64 er]) ∧ NewChg w' w.heap.size dd rc ∧ Below w.heap.size w w' := by
  by_cases h : seq < b.floor ∨ b.seq < seq
  · refine ⟨190, ChD.zero, fun r w hb => (changes_any b r seq most w hb ob hwm).mono ?_⟩
    rintro e w' ⟨h1, h2⟩
    rw [if_pos h] at h1
    exact ⟨RC.zero, h1, NewChg.zero _ _, h2⟩
  · obtain ⟨ys, hy⟩ := stable_exists cmpP (sinceL seq b.trail).reverse
    rw [List.reverse_reverse] at hy
    refine ⟨0, sncD b.seq ys most, fun r w hb => (changes_any b r seq most w hb ob hwm).mono ?_⟩
    rintro e w' ⟨h1, h2⟩
    rw [if_neg h] at h1
    obtain ⟨zs, rc, hz, he, hn⟩ := h1
    have e1 := IsStable.unique cmpP hz hy
    subst e1
    exact ⟨rc, he, hn, h2⟩

/-- A list of texts in a block of a range, that may be written over. -/
def RowT (W : World) (B0 B1 : Nat) (p : Option Addr) (n : Nat) : Prop := n ≤ maxLen ∧ (n = 0 ∨ ∃ g cs, p = some ⟨g, 0, none⟩ ∧ B0 ≤ g ∧ g < B1 ∧ W.heap[g]? = some (.cells cs 9 (0, 0)) ∧ n ≤ cs.size)
theorem RowT.of {W : World} {base : Nat} {p : Option Addr} {n c : Nat} {l : List ByteArray} (h : Own W base 9 encS 1 (.slice p n c) l) : RowT W base W.heap.size p n := by
  have hlt := h.lt
  obtain ⟨p', cap0, hv0, hc1, hc2⟩ := h.len
  obtain ⟨hl, h0⟩ := h
  simp only [Value.slice.injEq] at hv0
  obtain ⟨rfl, rfl, rfl⟩ := hv0
  refine ⟨by omega, ?_⟩
  rcases h0 with ⟨hv, hn⟩ | ⟨g, cap', cur, hv, hg, hh, hnc, hcm, hcs, ht⟩
  · exact .inl hn
  · simp only [Value.slice.injEq] at hv
    obtain ⟨rfl, _, rfl⟩ := hv
    exact .inr ⟨g, _, rfl, hg, (hlt g rfl).2, hh, by omega⟩
theorem RowT.below {W W' : World} {B0 B1 : Nat} {p : Option Addr} {n : Nat} (h : RowT W B0 B1 p n) (hb : Below B1 W W') : RowT W' B0 B1 p n := by
  refine ⟨h.1, ?_⟩
  rcases h.2 with h | ⟨g, cs, h1, h2, h3, h4, h5⟩
  · exact .inl h
  · exact .inr ⟨g, cs, h1, h2, h3, (hb.block g h3).trans h4, h5⟩
theorem RowT.put {W : World} {B0 B1 : Nat} {p : Option Addr} {n : Nat} (h : RowT W B0 B1 p n) (g j : Nat) (v : Value) : RowT (W.setCell ⟨g, j, none⟩ v) B0 B1 p n := by
  refine ⟨h.1, ?_⟩
  rcases h.2 with h | ⟨g', cs, h1, h2, h3, h4, h5⟩
  · exact .inl h
  · by_cases e : g = g'
    · subst e
      exact .inr ⟨g, cs.setIfInBounds j v, h1, h2, h3, by simp [World.setCell, Array.getElem?_modify, h4], by simpa using h5⟩
    · exact .inr ⟨g', cs, h1, h2, h3, by simp [World.setCell, Array.getElem?_modify, h4, e], h5⟩
theorem RowT.at {W : World} {B0 B1 : Nat} {p : Option Addr} {n k : Nat} (h : RowT W B0 B1 p n) (hk : k < n) : ∃ g u, p = some ⟨g, 0, none⟩ ∧ B0 ≤ g ∧ g < B1 ∧ W.cell? ⟨g, k, none⟩ = some u ∧ ∀ j, W.frozen? ⟨g, j, none⟩ = false := by
  rcases h.2 with h | ⟨g, cs, h1, h2, h3, h4, h5⟩
  · omega
  · refine ⟨g, cs[k]'(by omega), h1, h2, h3, ?_, fun j => by simp [World.frozen?, h4]⟩
    rw [cell_of_row W g k _ _ _ h4]
    exact Array.getElem?_eq_getElem (by omega)

/-- The two boxes. -/
structure KpS (w W : World) (b : BoxD) (r q : RB) (gw B0 : Nat) : Prop where
  box : BoxAt W w.heap.size r
  of : BoxOf W B0 b r
  was : BoxAt W gw q
  wof : BoxOf W B0 b q
  below : Below w.heap.size w W
  o1 : w.heap.size < gw
  o2 : gw < B0
  o3 : B0 ≤ W.heap.size
theorem KpS.go {w W W' : World} {b : BoxD} {r q : RB} {gw B0 : Nat} (h : KpS w W b r q gw B0) (hb : Below B0 W W') : KpS w W' b r q gw B0 :=
  ⟨h.box.under hb (by have := h.o1; have := h.o2; omega), h.of.under hb (Nat.le_refl _), h.was.under hb h.o2, h.wof.under hb (Nat.le_refl _), h.below.trans (hb.mono (by have := h.o1; have := h.o2; omega)), h.o1, h.o2, Nat.le_trans h.o3 hb.size⟩
theorem KpS.now {w W : World} {b : BoxD} {r q : RB} {gw B0 : Nat} (h : KpS w W b r q gw B0) : BoxOf W W.heap.size b r := h.of.under (Below.refl _ _) h.o3
theorem KpS.wnow {w W : World} {b : BoxD} {r q : RB} {gw B0 : Nat} (h : KpS w W b r q gw B0) : BoxOf W W.heap.size b q := h.wof.under (Below.refl _ _) h.o3
/-- And two changes, one to be written over. -/
structure KpC (w W : World) (b : BoxD) (r q : RB) (gw B0 g1 : Nat) (r1 : RC) (g2 : Nat) (r2 : RC) (dd : ChD) : Prop where
  k : KpS w W b r q gw B0
  c : ChAt W g1 r1
  made : RowT W B0 g1 r1.pa r1.na
  gone : RowT W B0 g1 r1.pc r1.nc
  d : ChAt W g2 r2
  dch : NewChg W (g1 + 1) dd r2
  o4 : g1 < g2
theorem NewChg.same {w w' : World} {base : Nat} {d : ChD} {r : RC} (h : NewChg w base d r) (hb : ∀ k, base ≤ k → k < w.heap.size → w'.heap[k]? = w.heap[k]?) : NewChg w' base d r :=
  ⟨h.made.same (fun k e => hb k (h.made.lt k e).1 (h.made.lt k e).2), h.chgd.same (fun k e => hb k (h.chgd.lt k e).1 (h.chgd.lt k e).2), h.gone.same (fun k e => hb k (h.gone.lt k e).1 (h.gone.lt k e).2), h.toN, h.more⟩
theorem KpC.put {w W : World} {b : BoxD} {r q : RB} {gw B0 g1 : Nat} {r1 : RC} {g2 : Nat} {r2 : RC} {dd : ChD} (h : KpC w W b r q gw B0 g1 r1 g2 r2 dd) (g j : Nat) (v : Value) (h0 : B0 ≤ g) (h1 : g < g1) : KpC w (W.setCell ⟨g, j, none⟩ v) b r q gw B0 g1 r1 g2 r2 dd := by
  have hg := grownBy_set W g j v
  have o4 := h.o4
  have hb : Below B0 W (W.setCell ⟨g, j, none⟩ v) := (Below.refl _ _).grown hg h.k.o3 (fun k e => by cases e; exact h0)
  exact ⟨h.k.go hb, (hg.block g1 h.c.lt (fun e => by cases e; omega)).trans h.c, h.made.put g j v, h.gone.put g j v, (hg.block g2 h.d.lt (fun e => by cases e; omega)).trans h.d, h.dch.same (fun k h2 h3 => hg.block k h3 (fun e => by cases e; omega)), o4⟩
theorem KpC.go {w W W' : World} {b : BoxD} {r q : RB} {gw B0 g1 : Nat} {r1 : RC} {g2 : Nat} {r2 : RC} {dd : ChD} (h : KpC w W b r q gw B0 g1 r1 g2 r2 dd) (hb : Below W.heap.size W W') : KpC w W' b r q gw B0 g1 r1 g2 r2 dd := by
  have h1 := h.c.lt
  exact ⟨h.k.go (hb.mono h.k.o3), h.c.under hb h.c.lt, h.made.below (hb.mono (by omega)), h.gone.below (hb.mono (by omega)), h.d.under hb h.d.lt, h.dch.below hb, h.o4⟩
end Go.Proofs.Ythgkgjcnmahacaa
end

section
/- The law that what is handed in stays, of what changed, walked. -/
set_option linter.unusedSimpArgs false
set_option linter.unusedVariables false
namespace Go.Proofs.Ythgkgjcnmahacaa
open Go.RowKit Go.OpenShut

set_option maxRecDepth 200000 in
set_option maxHeartbeats 16000000 in
theorem sinceKeeps_any (w : World) (b : BoxD) (r : RB) (seq : Int) (hb : BoxOf w w.heap.size b r) (ob : b.Ok) :
    Calls Try.prog 13 #[r.val, .int .i64 seq] w fun e w' => e = .returned (.bool true) ∧ Below w.heap.size w w' := by
  have hA : Below w.heap.size w (w.alloc r.obj) := (Below.refl _ _).alloc (Nat.le_refl _) _
  have hS : BxS w (w.alloc r.obj) b r := ⟨heap_alloc_at rfl, hb.under hA hA.size, hA⟩
  have HOB := Lib.hid ob
  obtain ⟨er, dd, hcc⟩ := changes_fix b seq 0 ob (by decide)
  have HCC := Lib.hid hcc
  clear hb ob hA hcc
  go_enter Try.func13, Try.ntmps13
  go_upto_region 1 with fail
  obtain ⟨W0, hW0⟩ : ∃ W, w.alloc r.obj = W := ⟨_, rfl⟩
  rw [hW0] at hS
  dsimp only [RB.obj] at hW0
  rw [hW0]
  have HS0 := Lib.hid hS
  clear hW0 hS
  go_wp2_with fail
  refine (awake19_any _).mono ?_
  rintro e w1 ⟨rfl, hb1⟩
  have HS1 := Lib.hid (HS0.out.go hb1)
  clear hb1 HS0
  have c0 := HS1.out.box.cell 0 rfl
  have c1 := HS1.out.box.cell 1 rfl
  have c2 := HS1.out.box.cell 2 rfl
  have c3 := HS1.out.box.cell 3 rfl
  have c4 := HS1.out.box.cell 4 rfl
  go_wp2_with fail
  refine (few19_any b r [] (.slice none 0 0) w1 HS1.out.of HOB.out (Rd.nil _ _) (fun o h => by simp at h)).mono ?_
  rintro e w2 ⟨y, rfl, HF, hb2⟩
  have HS2 := Lib.hid (HS1.out.go hb2)
  clear hb2 HS1 c0 c1 c2 c3 c4
  cases y with
  | false =>
    go_wp2_with fail
    refine (awake19_any _).mono ?_
    rintro e w3 ⟨rfl, hb3⟩
    go_wp2_with fail
    go_ret
    exact ⟨rfl, (HS2.out.go hb3).below⟩
  | true =>
  clear HF
  have c0 := HS2.out.box.cell 0 rfl
  have c1 := HS2.out.box.cell 1 rfl
  have c2 := HS2.out.box.cell 2 rfl
  have c3 := HS2.out.box.cell 3 rfl
  have c4 := HS2.out.box.cell 4 rfl
  go_upto_region 4 with fail
  have hS5 := HS2.out.go (W' := w2.alloc (.cells #[.slice r.po r.no r.co, .slice r.pt r.nt r.ct, .int .i64 r.sq, .int .i64 r.fl, .int .i64 r.kp] 35)) ((Below.refl _ _).alloc (Nat.le_refl _) _)
  have hA5 : BoxAt (w2.alloc (.cells #[.slice r.po r.no r.co, .slice r.pt r.nt r.ct, .int .i64 r.sq, .int .i64 r.fl, .int .i64 r.kp] 35)) w2.heap.size r := heap_alloc_at rfl
  have hlt5 := HS2.out.box.lt
  have hof5 : BoxOf (w2.alloc (.cells #[.slice r.po r.no r.co, .slice r.pt r.nt r.ct, .int .i64 r.sq, .int .i64 r.fl, .int .i64 r.kp] 35)) w2.heap.size b r := HS2.out.of.under ((Below.refl _ _).alloc (Nat.le_refl _) _) (Nat.le_refl _)
  obtain ⟨W5, hW5⟩ : ∃ W5, w2.alloc (.cells #[.slice r.po r.no r.co, .slice r.pt r.nt r.ct, .int .i64 r.sq, .int .i64 r.fl, .int .i64 r.kp] 35) = W5 := ⟨_, rfl⟩
  obtain ⟨g5, hg5⟩ : ∃ g, w2.heap.size = g := ⟨_, rfl⟩
  rw [hW5, hg5] at hA5 hof5
  rw [hW5] at hS5
  rw [hg5] at hlt5
  rw [hW5, hg5]
  clear hW5 hg5 HS2 c0 c1 c2 c3 c4
  have hnt := hS5.of.trail.nlen
  have hO : Own (W5.alloc (.cells #[] 48)) (g5 + 1) 48 encE 3 (.slice (some ⟨W5.heap.size, 0, none⟩) 0 0) ([] : List En) := Own.made (by have := hA5.lt; omega)
  have hS7 := hS5.go (W' := W5.alloc (.cells #[] 48)) ((Below.refl _ _).alloc (Nat.le_refl _) _)
  have hA7 := (show BoxAt (W5.alloc (.cells #[] 48)) g5 _ from heap_alloc_lt hA5.lt hA5)
  have hlt7 := hA5.lt
  have j1 : Hid (([] : List En).length + b.trail.length ≤ maxLen) := by have := HOB.out.trail; unfold Hid maxLen; simp; omega
  have j2 : Hid ((([] : List En).length + b.trail.length) * 32 ≤ 140737488355328) := by have := HOB.out.trail; unfold Hid; simp; omega
  have j3 : Hid (g5 + 1 ≤ (W5.alloc (.cells #[] 48)).heap.size) := by unfold Hid; simp; omega
  have j4 : Hid ((Value.slice (some ⟨W5.heap.size, 0, none⟩) 0 0).ownBlock ≠ some g5) := by unfold Hid; simp [Value.ownBlock]; omega
  have j5 : Hid ((([] : List En) ++ b.trail).length = r.nt) := by unfold Hid; simp; omega
  have j6 : Hid (∀ k, (Value.slice (some ⟨W5.heap.size, 0, none⟩) 0 0).ownBlock = some k → k = W5.heap.size) := by intro k e; simp [Value.ownBlock] at e; omega
  have c0 := hS5.box.cell 0 rfl
  have c1 := hS5.box.cell 1 rfl
  have c2 := hS5.box.cell 2 rfl
  have c3 := hS5.box.cell 3 rfl
  have c4 := hS5.box.cell 4 rfl
  have hz5 := hS5.box.lt
  have HO7 := Lib.hid hO
  have HA7 := Lib.hid hA7
  have HS7 := Lib.hid hS7
  have HOF7 : Hid (BoxOf (W5.alloc (.cells #[] 48)) g5 b r) := hof5.under ((Below.refl _ _).alloc (by omega) _) (Nat.le_refl _)
  have HLT7 : Hid (g5 < W5.heap.size) := hlt7
  have HLT5 : Hid (w.heap.size < g5) := hlt5
  have HRT := Lib.hid (rdE_iff.1 HS7.out.of.trail).2
  have HOKT := Lib.hid (rdE_iff.1 HS7.out.of.trail).1
  clear hnt hO hS7 hA7 hlt7 hS5 hA5 hlt5 hof5
  go_upto_region 5 with (at_builtin; refine wpList_append_rd slEn codecE _ rfl _ _ rfl rfl rfl HO7.out HRT.out j1.out j2.out j3.out ?_; intro v2 w8 ho2 hg2 hat2; obtain ⟨p2, cc2, hv2, hcl2, hcm2⟩ := ho2.len; rw [j5.out] at hv2; subst hv2; (have hA8 := HA7.out.keptR hg2 j4.out); (have d1 := hA8.cell 1 rfl); (have x1 := hA8.frozen 1))
  have hg9 := grownBy_set w8 g5 1 (.slice p2 r.nt cc2)
  have hA9 : BoxAt (w8.setCell ⟨g5, 1, none⟩ (.slice p2 r.nt cc2)) g5 ⟨r.po, r.no, r.co, p2, r.nt, cc2, r.sq, r.fl, r.kp⟩ := by
    have h := hA8
    unfold BoxAt at h ⊢
    simp [World.setCell, Array.getElem?_modify, h]
  have hb2 : ∀ k, (Value.slice p2 r.nt cc2).ownBlock = some k → g5 < k ∧ k < w8.heap.size := fun k e => by have := ho2.lt k e; omega
  have hent9 := ho2.kept hg9 (.inr (fun e => by have := (hb2 _ e).1; omega))
  have hb9 : Below g5 (W5.alloc (.cells #[] 48)) (w8.setCell ⟨g5, 1, none⟩ (.slice p2 r.nt cc2)) := by
    have h1 : Below g5 (W5.alloc (.cells #[] 48)) w8 := (Below.refl _ _).grown hg2 (by have := HLT7.out; simp; omega) (fun k e => by have := j6.out k e; have := HLT7.out; omega)
    have hz2 := hg2.size
    rw [World.size_alloc] at hz2
    exact h1.grown hg9 (by have := HLT7.out; omega) (fun k e => by cases e; exact Nat.le_refl _)
  have hbx9 := HS7.out.box.under hb9 HLT5.out
  have hbl9 := HS7.out.below.trans (hb9.mono (by have := HLT5.out; omega))
  obtain ⟨W9, hW9⟩ : ∃ W9, w8.setCell ⟨g5, 1, none⟩ (.slice p2 r.nt cc2) = W9 := ⟨_, rfl⟩
  rw [hW9] at hA9 hent9 hb9 hbx9 hbl9 ⊢
  rw [List.nil_append] at hent9
  have hof9 : BoxOf W9 W9.heap.size b r := (HOF7.out.under hb9 (Nat.le_refl _)).under (Below.refl _ _) (by have := hA9.lt; omega)
  have hwf9 : BoxOf W9 W9.heap.size b ⟨r.po, r.no, r.co, p2, r.nt, cc2, r.sq, r.fl, r.kp⟩ := ⟨hof9.objs, rdE_iff.2 ⟨HOKT.out, hent9.rd codecE⟩, hof9.seq, hof9.floor, hof9.keep⟩
  obtain ⟨q, hq⟩ : ∃ q : RB, q = ⟨r.po, r.no, r.co, p2, r.nt, cc2, r.sq, r.fl, r.kp⟩ := ⟨_, rfl⟩
  rw [← hq] at hA9 hwf9
  have hK9 : KpS w W9 b r q g5 W9.heap.size := ⟨hbx9, hof9, hA9, hwf9, hbl9, HLT5.out, hA9.lt, Nat.le_refl _⟩
  obtain ⟨B0, hB0⟩ : ∃ B, W9.heap.size = B := ⟨_, rfl⟩
  have HZ9 := Lib.hid hB0
  rw [hB0] at hK9
  have HK9 := Lib.hid hK9
  clear hq hK9 hof9 hwf9 hbx9 hbl9 hA9 hb9 hent9 hb2 hg9 hA8 d1 x1 hat2 hg2 ho2 hW9 HOF7 HOKT HRT HLT5 HLT7 HS7 HA7 HO7 j1 j2 j3 j4 j5 j6 c0 c1 c2 c3 c4 hz5 hcl2 hcm2 hB0
  have c0 := HK9.out.box.cell 0 rfl
  have c1 := HK9.out.box.cell 1 rfl
  have c2 := HK9.out.box.cell 2 rfl
  have c3 := HK9.out.box.cell 3 rfl
  have c4 := HK9.out.box.cell 4 rfl
  have hz9 := HK9.out.box.lt
  go_upto_region 6 with (go_at_call 42; refine (HCC.out r _ HK9.out.now).mono ?_; rintro e w3 ⟨r1, rfl, hn, hb1⟩; go_frame)
  have hK3 := HK9.out.go (by have := hb1.alloc hb1.size r1.obj; rw [HZ9.out] at this; exact this)
  have hm3 := RowT.of hn.made
  have hg3 := RowT.of hn.gone
  rw [HZ9.out] at hm3 hg3
  have hA3 : Below w3.heap.size w3 (w3.alloc r1.obj) := (Below.refl _ _).alloc (Nat.le_refl _) _
  have hm3' := hm3.below hA3
  have hg3' := hg3.below hA3
  have hc3 : ChAt (w3.alloc r1.obj) w3.heap.size r1 := heap_alloc_at rfl
  have hsz3 : (w3.alloc r1.obj).heap.size = w3.heap.size + 1 := by simp
  obtain ⟨g1, hg1⟩ : ∃ g, w3.heap.size = g := ⟨_, rfl⟩
  obtain ⟨W3, hW3⟩ : ∃ W, w3.alloc r1.obj = W := ⟨_, rfl⟩
  rw [hg1, hW3] at hm3' hg3' hc3 hsz3
  rw [hW3] at hK3
  dsimp only [RC.obj] at hW3
  rw [hW3, hg1]
  have HK3 := Lib.hid hK3
  have HM3 := Lib.hid hm3'
  have HG3 := Lib.hid hg3'
  have HC3 := Lib.hid hc3
  have HSZ3 := Lib.hid hsz3
  clear hW3 hg1 hK3 hm3 hg3 hm3' hg3' hc3 hsz3 hb1 hn hA3 c0 c1 c2 c3 c4 hz9 HK9 HZ9
  have c0 := HK3.out.box.cell 0 rfl
  have c1 := HK3.out.box.cell 1 rfl
  have c2 := HK3.out.box.cell 2 rfl
  have c3 := HK3.out.box.cell 3 rfl
  have c4 := HK3.out.box.cell 4 rfl
  have hz3 := HK3.out.box.lt
  go_upto_region 7 with (go_at_call 42; refine (HCC.out r _ HK3.out.now).mono ?_; rintro e w4 ⟨r2, rfl, hn, hb1⟩; go_frame)
  have hA4 : Below w4.heap.size w4 (w4.alloc r2.obj) := (Below.refl _ _).alloc (Nat.le_refl _) _
  have hb4 := hb1.alloc hb1.size r2.obj
  have hK4 : KpC w (w4.alloc r2.obj) b r q g5 B0 g1 r1 w4.heap.size r2 dd := by
    have hc := HC3.out.lt
    have hs := hb1.size
    refine ⟨HK3.out.go (hb4.mono HK3.out.o3), HC3.out.under hb4 hc, HM3.out.below (hb4.mono (by omega)), HG3.out.below (hb4.mono (by omega)), heap_alloc_at rfl, ?_, by omega⟩
    have h1 := hn.below hA4
    rw [HSZ3.out] at h1
    exact h1
  obtain ⟨g2, hg2⟩ : ∃ g, w4.heap.size = g := ⟨_, rfl⟩
  obtain ⟨W4, hW4⟩ : ∃ W, w4.alloc r2.obj = W := ⟨_, rfl⟩
  rw [hg2, hW4] at hK4
  dsimp only [RC.obj] at hW4
  rw [hW4, hg2]
  have HK := Lib.hid hK4
  clear hW4 hg2 hK4 hb4 hA4 hb1 hn c0 c1 c2 c3 c4 hz3 HK3 HM3 HG3 HC3 HSZ3
  go_upto_block 0 with fail
  go_cut [10] from 40 to 50 (fun v wa => Hid (KpC w wa b r q g5 B0 g1 r1 g2 r2 dd))
  case first =>
    go_wp2_with fail
    go_loopw [10] (fun i wa => ∃ k : Nat, k ≤ r1.na ∧ i = .int .i64 k ∧ Hid (KpC w wa b r q g5 B0 g1 r1 g2 r2 dd)) (fun i _ => r1.na - (intOf i).toNat)
    case atStart => exact ⟨0, Nat.zero_le _, rfl, HK⟩
    case round =>
      obtain ⟨k, hk, rfl, hkf⟩ := hrel
      clear HK
      have c0 := hkf.out.c.cell 0 (u := .slice r1.pa r1.na r1.ca) rfl
      have bl := hkf.out.c.lt
      have hnm := hkf.out.made.1
      unfold maxLen at hnm
      have hk0 : (0 : Int) ≤ (k : Int) := Int.natCast_nonneg _
      by_cases hlt : k < r1.na
      · have hk1 : (k : Int) < (r1.na : Int) := by omega
        obtain ⟨g, u, hp, hbg, hgl, f0, hfr⟩ := hkf.out.made.at hlt
        have x0 := hfr k
        have hgz : g < wr.heap.size := by omega
        rw [hp] at c0
        clear hfr hp
        go_wp2_with fail
        go_roundw
        case rel => exact ⟨k + 1, by omega, by go_num, hkf.out.put g k _ hbg hgl⟩
        case measure => simp [intOf]; omega
      · have hk2 : ¬ ((k : Int) < (r1.na : Int)) := by omega
        go_wp2_with fail
        go_meet
        exact hkf
  case rest =>
  have HK := hcut
  go_upto_block 2 with fail
  go_cut [11] from 51 to 61 (fun v wb => Hid (KpC w wb b r q g5 B0 g1 r1 g2 r2 dd))
  case first =>
    go_wp2_with fail
    go_loopw [11] (fun i wb => ∃ k : Nat, k ≤ r1.nc ∧ i = .int .i64 k ∧ Hid (KpC w wb b r q g5 B0 g1 r1 g2 r2 dd)) (fun i _ => r1.nc - (intOf i).toNat)
    case atStart => exact ⟨0, Nat.zero_le _, rfl, HK⟩
    case round =>
      obtain ⟨k, hk, rfl, hkf⟩ := hrel
      clear HK
      have c0 := hkf.out.c.cell 2 (u := .slice r1.pc r1.nc r1.cc) rfl
      have bl := hkf.out.c.lt
      have hnm := hkf.out.gone.1
      unfold maxLen at hnm
      have hk0 : (0 : Int) ≤ (k : Int) := Int.natCast_nonneg _
      by_cases hlt : k < r1.nc
      · have hk1 : (k : Int) < (r1.nc : Int) := by omega
        obtain ⟨g, u, hp, hbg, hgl, f0, hfr⟩ := hkf.out.gone.at hlt
        have x0 := hfr k
        have hgz : g < wr.heap.size := by omega
        rw [hp] at c0
        clear hfr hp
        go_wp2_with fail
        go_roundw
        case rel => exact ⟨k + 1, by omega, by go_num, hkf.out.put g k _ hbg hgl⟩
        case measure => simp [intOf]; omega
      · have hk2 : ¬ ((k : Int) < (r1.nc : Int)) := by omega
        go_wp2_with fail
        go_meet
        exact hkf
  case rest =>
  have HK := hcut
  clear hcut
  have hz1 := HK.out.k.box.lt
  have c0 := HK.out.k.box.cell 0 rfl
  have c1 := HK.out.k.box.cell 1 rfl
  have c2 := HK.out.k.box.cell 2 rfl
  have c3 := HK.out.k.box.cell 3 rfl
  have c4 := HK.out.k.box.cell 4 rfl
  go_upto_region 16 with (go_at_call 42; refine (HCC.out r _ HK.out.k.now).mono ?_; rintro e w5 ⟨r3, rfl, hn, hb1⟩; go_frame)
  have hA5 : Below w5.heap.size w5 (w5.alloc r3.obj) := (Below.refl _ _).alloc (Nat.le_refl _) _
  have hK5 := HK.out.go (hb1.alloc hb1.size r3.obj)
  have hc5 : ChAt (w5.alloc r3.obj) w5.heap.size r3 := heap_alloc_at rfl
  have hq5 := hn.chg.under hA5 hA5.size
  obtain ⟨g3, hg3⟩ : ∃ g, w5.heap.size = g := ⟨_, rfl⟩
  obtain ⟨W5', hW5⟩ : ∃ W, w5.alloc r3.obj = W := ⟨_, rfl⟩
  rw [hg3, hW5] at hc5
  rw [hW5] at hq5 hK5
  dsimp only [RC.obj] at hW5
  rw [hW5, hg3]
  have HK5 := Lib.hid hK5
  have HC5 := Lib.hid hc5
  have HQ5 := Lib.hid hq5
  clear hW5 hg3 hK5 hc5 hq5 hA5 hb1 hn c0 c1 c2 c3 c4 hz1 HK HCC
  have C1 : Hid (∀ W', KB W5'.heap.size W5' W' → Calls Try.prog 44 #[r2.val, r3.val] W' fun e w' => e = .returned (.bool true) ∧ Below W'.heap.size W' w') := fun W' hk => same19_yes dd r2 r3 W' (HK5.out.dch.chg.under hk.1 hk.1.size) (HQ5.out.under hk.1 hk.1.size)
  have C2 : Hid (∀ W', KB W5'.heap.size W5' W' → Calls Try.prog 25 #[r.val, q.val] W' fun e w' => e = .returned (.bool true) ∧ Below W'.heap.size W' w') := fun W' hk => (same18_any b b r q W' (HK5.out.k.now.under hk.1 hk.1.size) (HK5.out.k.wnow.under hk.1 hk.1.size) HOB.out HOB.out).mono (by
    rintro e w' ⟨y, rfl, hs, hbz⟩
    obtain rfl : y = true := hs.2 rfl
    exact ⟨rfl, hbz⟩)
  have C3 : Hid (∀ W', KB W5'.heap.size W5' W' → Calls Try.prog 24 #[r.val] W' (IdsRet W' (b.objs.map (·.1)))) := fun W' hk => ids_any b r W' (HK5.out.k.now.under hk.1 hk.1.size) HOB.out
  have C4 : Hid (∀ W', KB W5'.heap.size W5' W' → Calls Try.prog 24 #[q.val] W' (IdsRet W' (b.objs.map (·.1)))) := fun W' hk => ids_any b q W' (HK5.out.k.wnow.under hk.1 hk.1.size) HOB.out
  have qe : (er == er) = true := by simp
  have z1 := HK5.out.k.box.lt
  have z2 := HK5.out.k.was.lt
  have z3 := HK5.out.d.lt
  have z4 := HC5.out.lt
  have c0 := HK5.out.k.box.cell 0 rfl
  have c1 := HK5.out.k.box.cell 1 rfl
  have c2 := HK5.out.k.box.cell 2 rfl
  have c3 := HK5.out.k.box.cell 3 rfl
  have c4 := HK5.out.k.box.cell 4 rfl
  have d0 := HK5.out.k.was.cell 0 rfl
  have d1 := HK5.out.k.was.cell 1 rfl
  have d2 := HK5.out.k.was.cell 2 rfl
  have d3 := HK5.out.k.was.cell 3 rfl
  have d4 := HK5.out.k.was.cell 4 rfl
  have h0 := HK5.out.d.cell 0 rfl
  have h1 := HK5.out.d.cell 1 rfl
  have h2 := HK5.out.d.cell 2 rfl
  have h3 := HK5.out.d.cell 3 rfl
  have h4 := HK5.out.d.cell 4 rfl
  have m0 := HC5.out.cell 0 rfl
  have m1 := HC5.out.cell 1 rfl
  have m2 := HC5.out.cell 2 rfl
  have m3 := HC5.out.cell 3 rfl
  have m4 := HC5.out.cell 4 rfl
  go_region_held3 (fun w' => Below W5'.heap.size W5' w' ∧ ∀ b o, b < W5'.heap.size → w'.cell? ⟨b, o, none⟩ = W5'.cell? ⟨b, o, none⟩)
    (first | with_reducible exact kt_drew W5' | with_reducible exact kt_same hbk)
    (first
      | (go_at_call 44; refine (C1.out _ (by assumption)).mono ?_; rintro e w6 ⟨rfl, hb6⟩; (have hbk := KB.step (W := W5') (by assumption) hb6))
      | (go_at_call 25; refine (C2.out _ (by assumption)).mono ?_; rintro e w7 ⟨rfl, hb7⟩; (have hbk := KB.step (W := W5') (by assumption) hb7))
      | (have h8 := HU8; go_at_call 24; refine (C4.out w8 (by assumption)).mono ?_; rintro e w9 ⟨u9, rfl, hu9, hb9⟩; (have hbk := KB.step (W := W5') (by assumption) hb9); (have HU9 := Lib.hid hu9); (have HB9 := Lib.hid hb9))
      | (go_at_call 24; refine (C3.out _ (by assumption)).mono ?_; rintro e w8 ⟨u8, rfl, hu8, hb8⟩; (have hbk := KB.step (W := W5') (by assumption) hb8); (have HU8 := Lib.hid hu8); (have HB8 := Lib.hid hb8))
      | (go_at_call 49; refine (sameParts_any w9 w9.heap.size u8 u9 _ _ ((HU8.out.rd codecS).below HB9.out HB9.out.size) (HU9.out.rd codecS)).mono ?_; rintro e w10 ⟨h10, n10, hd10⟩; rw [decide_eq_true rfl] at h10; subst h10; subst hd10; (have hbk := KB.step (W := W5') (by assumption) (bdn (Below.refl _ _) n10))))
  all_goals (
    rename (Below W5'.heap.size W5' _ ∧ _) => hkb
    go_wp2_with fail
    go_ret
    exact ⟨rfl, HK5.out.k.below.trans (hkb.1.mono HK5.out.k.below.size)⟩)
end Go.Proofs.Ythgkgjcnmahacaa
end
