import Derived.Test.YthgkgjcnmahacaaTs17
import Derived.Test.YthgkgjcnmahacaaTs14
import Derived.Test.YthgkgjcnmahacaaTs02
import Derived.Test.YthgkgjcnmahacaaTs00
import Derived.Test.YthgkgjcnmahacaaTs01
import Derived.Lib.AppendStr
import Derived.Lib.BufferRead
import Derived.Laws.IdiomStrings
import Derived.WalkLawsBesides
section
/- store.Drop, walked. -/
set_option linter.unusedSimpArgs false
set_option linter.unusedVariables false
namespace Go.Proofs.Ythgkgjcnmahacaa
open Go.RowKit Go.OpenShut

/-- What Drop answers: the box, and why not. -/
def dropB (b : BoxD) (id : ByteArray) : BoxD × Int :=
  if isAt b.objs id = false then (BoxD.zero, 81) else if 9007199254740991 ≤ b.seq then (BoxD.zero, 180) else (chgB b (b.objs.take (lowN b.objs id) ++ b.objs.drop (lowN b.objs id + 1)) id 3, 0)

/-- A box and what is answered, in blocks of their own. -/
structure TwoB (w W : World) (r : RB) : Prop where
  box : BoxAt W w.heap.size r
  zero : BoxAt W (w.heap.size + 1) RB.zero
  below : Below w.heap.size w W
section
variable {w W W' : World} {r : RB} (h : TwoB w W r)
include h
theorem TwoB.size : w.heap.size + 1 < W.heap.size := h.zero.lt
theorem TwoB.go (hb : Below W.heap.size W W') : TwoB w W' r := ⟨h.box.under hb h.box.lt, h.zero.under hb h.size, h.below.trans (hb.mono h.below.size)⟩
theorem TwoB.setBox (q : RB) (hq : BoxAt W' w.heap.size q) (hg : W.grownBy W' (some w.heap.size)) : TwoB w W' q := ⟨hq, h.zero.kept hg (by omega), h.below.grown hg h.below.size (fun a e => by cases e; exact Nat.le_refl _)⟩
theorem TwoB.row {row : Option Nat} (hg : W.grownBy W' row) (hr : ∀ k, row = some k → w.heap.size + 1 < k) : TwoB w W' r := by
  have hz := h.size
  have hb : ∀ k, k ≤ w.heap.size + 1 → W'.heap[k]? = W.heap[k]? := fun k hk => hg.block k (by omega) (fun e => by have := hr k e.symm; omega)
  exact ⟨(hb _ (by omega)).trans h.box, (hb _ (by omega)).trans h.zero, h.below.grown hg h.below.size (fun a e => by have := hr a e; omega)⟩
end
theorem TwoB.start (w : World) (r : RB) : TwoB w ((w.alloc (.cells #[.slice r.po r.no r.co, .slice r.pt r.nt r.ct, .int .i64 r.sq, .int .i64 r.fl, .int .i64 r.kp] 35)).alloc (.cells #[.slice none 0 0, .slice none 0 0, .int .i64 0, .int .i64 0, .int .i64 0] 35)) r := ⟨heap_alloc_lt (by simp) (heap_alloc_at rfl), heap_alloc_at (by simp), below2 _ _ _⟩

set_option maxRecDepth 200000 in
set_option maxHeartbeats 8000000 in
theorem drop_any (b : BoxD) (r : RB) (id : ByteArray) (w : World) (hb : BoxOf w w.heap.size b r) (hr : Rising b.objs) (ob : b.Ok) (hid : id.size ≤ 140737488351232) :
    Calls Try.prog 23 #[r.val, .string id] w (BoxErr w (dropB b id)) := by
  have hS := TwoB.start w r
  have HBX := Lib.hid hb
  have HR := Lib.hid hr
  have HOB := Lib.hid ob
  have HID := Lib.hid hid
  have HSQ : Hid (b.seq = r.sq ∧ b.objs.length = r.no) := ⟨hb.seq, hb.objs.nlen⟩
  clear hb hr ob hid
  go_enter Try.func23, Try.ntmps23
  go_upto_region 1 with fail
  obtain ⟨W0, hW0⟩ : ∃ W0, ((w.alloc (.cells #[.slice r.po r.no r.co, .slice r.pt r.nt r.ct, .int .i64 r.sq, .int .i64 r.fl, .int .i64 r.kp] 35)).alloc (.cells #[.slice none 0 0, .slice none 0 0, .int .i64 0, .int .i64 0, .int .i64 0] 35)) = W0 := ⟨_, rfl⟩
  rw [hW0] at hS ⊢
  clear hW0
  have HS := Lib.hid hS
  have hz0 := hS.size
  have c0 := hS.box.cell 0 rfl
  have c1 := hS.box.cell 1 rfl
  have c2 := hS.box.cell 2 rfl
  have c3 := hS.box.cell 3 rfl
  have c4 := hS.box.cell 4 rfl
  have HPL := Lib.hid (placeO_any b r id W0 (HBX.out.under hS.below hS.below.size) HR.out HOB.out)
  clear hS
  go_upto_region 2 with (go_at_call 59; refine HPL.out.mono ?_; rintro e w1 ⟨rfl, hb1⟩)
  have HS1 := Lib.hid (HS.out.go hb1)
  clear HPL HS hb1 c0 c1 c2 c3 c4 hz0
  have hz1 := HS1.out.size
  have c0 := HS1.out.box.cell 0 rfl
  have c1 := HS1.out.box.cell 1 rfl
  have c2 := HS1.out.box.cell 2 rfl
  have c3 := HS1.out.box.cell 3 rfl
  have c4 := HS1.out.box.cell 4 rfl
  have z0 := HS1.out.zero.cell 0 rfl
  have z1 := HS1.out.zero.cell 1 rfl
  have z2 := HS1.out.zero.cell 2 rfl
  have z3 := HS1.out.zero.cell 3 rfl
  have z4 := HS1.out.zero.cell 4 rfl
  have y0 := HS1.out.zero.frozen 0
  have y1 := HS1.out.zero.frozen 1
  have y2 := HS1.out.zero.frozen 2
  have y3 := HS1.out.zero.frozen 3
  have y4 := HS1.out.zero.frozen 4
  dsimp only [RB.zero] at z0 z1 z2 z3 z4
  cases hat : isAt b.objs id with
  | false =>
    have HX : Hid (dropB b id = (BoxD.zero, 81)) := by unfold Hid dropB; rw [if_pos hat]
    clear hat
    go_wp2_with fail
    refine bodyPost_ret (v := .tuple #[RB.val RB.zero, .int .i64 81]) (by simp [results, Try.results23, go_sem, RB.zero, z0, z1, z2, z3, z4]) rfl ?_
    exact ⟨RB.zero, by rw [HX.out], by rw [HX.out]; exact NewBox.zero _ _ _, HS1.out.below.grown (grownBy_setB _ _ RB.zero) HS1.out.below.size (fun a e => by cases e; omega)⟩
  | true =>
    obtain ⟨p, hp, hpi, hpo⟩ := isAt_some hat
    have hi := (List.getElem?_eq_some_iff.1 hp).1
    have HAT := Lib.hid hat
    have HILT : Hid (lowN b.objs id < b.objs.length) := hi
    have HP := Lib.hid hp
    clear hat hp hpi hpo hi
    by_cases hfull : 9007199254740991 ≤ b.seq
    · have HX : Hid (dropB b id = (BoxD.zero, 180)) := by unfold Hid dropB; rw [if_neg (by rw [HAT.out]; decide), if_pos hfull]
      have hq : decide ((9007199254740991 : Int) ≤ r.sq) = true := by have := HSQ.out.1; simp; omega
      clear hfull
      go_wp2_with fail
      refine bodyPost_ret (v := .tuple #[RB.val RB.zero, .int .i64 180]) (by simp [results, Try.results23, go_sem, RB.zero, z0, z1, z2, z3, z4]) rfl ?_
      exact ⟨RB.zero, by rw [HX.out], by rw [HX.out]; exact NewBox.zero _ _ _, HS1.out.below.grown (grownBy_setB _ _ RB.zero) HS1.out.below.size (fun a e => by cases e; omega)⟩
    · have HX : Hid (dropB b id = (chgB b (b.objs.take (lowN b.objs id) ++ b.objs.drop (lowN b.objs id + 1)) id 3, 0)) := by unfold Hid dropB; rw [if_neg (by rw [HAT.out]; decide), if_neg hfull]
      have hq : decide ((9007199254740991 : Int) ≤ r.sq) = false := by have := HSQ.out.1; simp; omega
      have HFU := Lib.hid hfull
      clear hfull
      clear z0 z1 z2 z3 z4 y0 y1 y2 y3 y4
      go_upto_region 7 with (go_at_call 63; refine (own_any b r _ w.heap.size HS1.out.below.size (HBX.out.under HS1.out.below (Nat.le_refl _)) HOB.out).mono ?_; rintro e w4 ⟨q1, rfl, hN1, hb4⟩; (have HS4 := Lib.hid (HS1.out.go hb4)); clear c0 c1 c2 c3 c4; (have c0 := HS4.out.box.cell 0 rfl); (have c1 := HS4.out.box.cell 1 rfl); (have c2 := HS4.out.box.cell 2 rfl); (have c3 := HS4.out.box.cell 3 rfl); (have c4 := HS4.out.box.cell 4 rfl); (have x0 := HS4.out.box.frozen 0); (have x1 := HS4.out.box.frozen 1); (have x2 := HS4.out.box.frozen 2); (have x3 := HS4.out.box.frozen 3); (have x4 := HS4.out.box.frozen 4))
      have hg5 := grownBy_setB w4 w.heap.size q1
      have HS5 := Lib.hid (HS4.out.setBox q1 (HS4.out.box.stored q1) hg5)
      have hne5 := hN1.ne (g := w.heap.size) (by omega)
      have hN5 := hN1.kept hg5 hne5.1 hne5.2 HS4.out.below.size (Nat.le_refl _)
      obtain ⟨W5, hW5⟩ : ∃ W5, (((((w4.setCell ⟨w.heap.size, 0, none⟩ (.slice q1.po q1.no q1.co)).setCell ⟨w.heap.size, 1, none⟩ (.slice q1.pt q1.nt q1.ct)).setCell ⟨w.heap.size, 2, none⟩ (.int .i64 q1.sq)).setCell ⟨w.heap.size, 3, none⟩ (.int .i64 q1.fl)).setCell ⟨w.heap.size, 4, none⟩ (.int .i64 q1.kp)) = W5 := ⟨_, rfl⟩
      have hz5 : w4.heap.size = W5.heap.size := by rw [← hW5]; simp
      rw [hW5] at HS5 hN5 ⊢
      have hzb := hb4.size
      clear hW5 hg5 hne5 hN1 hb4 HS4 c0 c1 c2 c3 c4 x0 x1 x2 x3 x4
      obtain ⟨bs, hbs⟩ : ∃ n, w1.heap.size = n := ⟨_, rfl⟩
      rw [hbs] at hN5 hz1 hzb
      obtain ⟨ros, hro, hms⟩ := hN5.objs
      have hn1 := hms.len
      have hn2 := rd_nlen (hro.rd codecM)
      have hlenz := HOB.out.objs
      have c0 := HS5.out.box.cell 0 rfl
      have c1 := HS5.out.box.cell 1 rfl
      have c2 := HS5.out.box.cell 2 rfl
      have c3 := HS5.out.box.cell 3 rfl
      have c4 := HS5.out.box.cell 4 rfl
      have x0 := HS5.out.box.frozen 0
      have hDel := deleteO_any W5 bs q1.po q1.no q1.co (lowN b.objs id) ros hro (by omega) (by have := HILT.out; omega) (by omega)
      have hrowb : (Value.slice q1.po (q1.no - 1) q1.co).ownBlock = (Value.slice q1.po q1.no q1.co).ownBlock := by cases q1.po <;> rfl
      unfold DelRet at hDel
      rw [hrowb] at hDel
      have HDel := Lib.hid hDel
      clear hrowb
      have HN5 := Lib.hid hN5
      have HMS := Lib.hid hms
      have HRO := Lib.hid hro
      have HZB : Hid (bs ≤ W5.heap.size) := by unfold Hid; omega
      have hnn : (lowN b.objs id : Int) ≤ 1466015503658 := by have := HILT.out; omega
      have hnn0 : (0 : Int) ≤ (lowN b.objs id : Int) := Int.natCast_nonneg _
      clear hDel hN5 hms hro hn1 hn2 hlenz hzb hz5 hbs
      go_upto_region 8 with (go_at_call 68; refine HDel.out.mono ?_; rintro e w6 ⟨rfl, ho6, hg6⟩; (have HS6' := Lib.hid (HS5.out.row hg6 (fun k e => by have := (HRO.out.lt k e).1; omega))); clear c0 c1 c2 c3 c4 x0; (have c0 := HS6'.out.box.cell 0 rfl); (have c1 := HS6'.out.box.cell 1 rfl); (have c2 := HS6'.out.box.cell 2 rfl); (have c3 := HS6'.out.box.cell 3 rfl); (have c4 := HS6'.out.box.cell 4 rfl); (have x0 := HS6'.out.box.frozen 0); (have x1 := HS6'.out.box.frozen 1); (have x2 := HS6'.out.box.frozen 2); (have x3 := HS6'.out.box.frozen 3); (have x4 := HS6'.out.box.frozen 4))
      have hg7 := grownBy_set w6 w.heap.size 0 (.slice q1.po (q1.no - 1) q1.co)
      have hB7 := HS6'.out.box.set0 q1.po (q1.no - 1) q1.co
      have HS7 := Lib.hid (HS6'.out.setBox _ hB7 hg7)
      obtain ⟨W7, hW7⟩ : ∃ W7, w6.setCell ⟨w.heap.size, 0, none⟩ (.slice q1.po (q1.no - 1) q1.co) = W7 := ⟨_, rfl⟩
      rw [hW7] at HS7 hg7 ⊢
      have hzb7 : bs ≤ W7.heap.size := by have h1 := hg6.size; have h2 := hg7.size; have := HZB.out; omega
      have hb6 : Below w.heap.size W5 w6 := (Below.refl _ _).grown hg6 HS5.out.below.size (fun k e => by have := (HRO.out.lt k e).1; omega)
      have hN6 := HN5.out.withObjs hg6 rfl (by decide) ho6 ((HMS.out.delete (lowN b.objs id)).under hb6 (Nat.le_refl _))
      have hne6 := hN6.ne (g := w.heap.size) (by omega)
      have HN7 := Lib.hid (hN6.kept hg7 hne6.1 hne6.2 (by have := HS6'.out.below.size; omega) (Nat.le_refl _))
      clear hW7 hg7 hB7 hb6 hN6 hne6 ho6 hg6 c0 c1 c2 c3 c4 x0 x1 x2 x3 x4 HS6' HDel
      have hz7 := HS7.out.size
      have hCh := changed_any { b with objs := b.objs.take (lowN b.objs id) ++ b.objs.drop (lowN b.objs id + 1) } ⟨q1.po, q1.no - 1, q1.co, q1.pt, q1.nt, q1.ct, q1.sq, q1.fl, q1.kp⟩ W7 bs w.heap.size id 3 HS7.out.below.size hzb7 HN7.out HOB.out.seq (by have := HFU.out; show b.seq < _; omega) HOB.out.floor HOB.out.keep (by have := HID.out; unfold maxLen; omega) (by decide) (by have := HOB.out.trail; show (b.trail.length + 1) * 32 ≤ _; omega)
      have HCh := Lib.hid hCh
      clear hCh
      have c0 := HS7.out.box.cell 0 rfl
      have c1 := HS7.out.box.cell 1 rfl
      have c2 := HS7.out.box.cell 2 rfl
      have c3 := HS7.out.box.cell 3 rfl
      have c4 := HS7.out.box.cell 4 rfl
      dsimp only at c0 c1 c2 c3 c4
      go_wp2_with (go_at_call 66; refine HCh.out.mono ?_; rintro e w8 ⟨q8, rfl, hN8, hb8⟩; (have HS8 := Lib.hid (HS7.out.go hb8)); (have z0 := HS8.out.zero.cell 0 rfl); (have z1 := HS8.out.zero.cell 1 rfl); (have z2 := HS8.out.zero.cell 2 rfl); (have z3 := HS8.out.zero.cell 3 rfl); (have z4 := HS8.out.zero.cell 4 rfl); (have y0 := HS8.out.zero.frozen 0); (have y1 := HS8.out.zero.frozen 1); (have y2 := HS8.out.zero.frozen 2); (have y3 := HS8.out.zero.frozen 3); (have y4 := HS8.out.zero.frozen 4); dsimp only [RB.zero] at z0 z1 z2 z3 z4)
      have hz8 := HS8.out.size
      have hg9 := grownBy_setB w8 (w.heap.size + 1) q8
      have hne9 := hN8.ne (g := w.heap.size + 1) (by omega)
      refine bodyPost_ret (v := .tuple #[RB.val q8, .int .i64 0]) (by simp [results, Try.results23, go_sem, z0, z1, z2, z3, z4]) rfl ?_
      exact ⟨q8, by rw [HX.out], by rw [HX.out]; exact ((hN8.kept hg9 hne9.1 hne9.2 HS8.out.below.size (by omega)).mono (by omega) (Nat.le_refl _)), HS8.out.below.grown hg9 HS8.out.below.size (fun a e => by cases e; omega)⟩
end Go.Proofs.Ythgkgjcnmahacaa
end

section
/- The plain law of order: acts of unlike ids lead to the same objects in either order. -/
set_option linter.unusedSimpArgs false
set_option linter.unusedVariables false
namespace Go.Proofs.Ythgkgjcnmahacaa
open Go.RowKit Go.OpenShut

abbrev Obs := List (ByteArray × JV)
def Rise (os : Obs) : Prop := os.Pairwise (fun p q => cmpN p.1 q.1 < 0)
theorem rise_iff {os : Obs} : Rising os ↔ Rise os := by
  unfold Rise
  rw [List.pairwise_iff_getElem]
  constructor
  · intro h i j hi hj hij
    exact h i j _ _ hij (List.getElem?_eq_getElem hi) (List.getElem?_eq_getElem hj)
  · intro h i j p q hij hp hq
    obtain ⟨hi, rfl⟩ := List.getElem?_eq_some_iff.1 hp
    obtain ⟨hj, rfl⟩ := List.getElem?_eq_some_iff.1 hq
    exact h i j hi hj hij
theorem cmp_ne {a b : ByteArray} (h : cmpN a b < 0) : a ≠ b := fun e => by subst e; rw [cmpN_self] at h; omega
theorem cmp_tri (a b : ByteArray) : cmpN a b < 0 ∨ a = b ∨ cmpN b a < 0 := by
  have h := cmpN_neg a b
  by_cases h1 : cmpN a b < 0
  · exact .inl h1
  · by_cases h2 : cmpN a b = 0
    · exact .inr (.inl (cmpN_eq h2))
    · exact .inr (.inr (by omega))
theorem cmp_trans {a b c : ByteArray} (h1 : cmpN a b < 0) (h2 : cmpN b c < 0) : cmpN a c < 0 := cmpN_lt_trans h1 (by have := cmpN_neg b c; omega)
theorem lowN_cons (p : ByteArray × JV) (os : Obs) (id : ByteArray) : lowN (p :: os) id = if cmpN p.1 id < 0 then lowN os id + 1 else 0 := by
  unfold lowN
  rw [List.takeWhile_cons]
  by_cases h : cmpN p.1 id < 0 <;> simp [h]
/-- What is under an id. -/
def look (os : Obs) (id : ByteArray) : Option JV := if isAt os id = true then some (oldV os id) else none
theorem isAt_cons (p : ByteArray × JV) (os : Obs) (id : ByteArray) : isAt (p :: os) id = if cmpN p.1 id < 0 then isAt os id else decide (p.1 = id) := by
  unfold isAt
  rw [lowN_cons]
  by_cases h : cmpN p.1 id < 0 <;> simp [h]
theorem oldV_cons (p : ByteArray × JV) (os : Obs) (id : ByteArray) : oldV (p :: os) id = if cmpN p.1 id < 0 then oldV os id else p.2 := by
  unfold oldV
  rw [lowN_cons]
  by_cases h : cmpN p.1 id < 0 <;> simp [h]
theorem look_nil (id : ByteArray) : look [] id = none := rfl
theorem look_cons (p : ByteArray × JV) (os : Obs) (id : ByteArray) : look (p :: os) id = if cmpN p.1 id < 0 then look os id else if p.1 = id then some p.2 else none := by
  unfold look
  rw [isAt_cons, oldV_cons]
  by_cases h : cmpN p.1 id < 0 <;> simp [h]
theorem look_isSome (os : Obs) (id : ByteArray) : (look os id).isSome = isAt os id := by
  unfold look
  cases isAt os id <;> simp
theorem look_mem : ∀ {os : Obs} (hr : Rise os) (z : ByteArray × JV), z ∈ os ↔ look os z.1 = some z.2
  | [], _, z => by simp [look_nil]
  | p :: os, hr, z => by
    obtain ⟨h1, h2⟩ := List.pairwise_cons.1 hr
    have ih := look_mem h2 z
    rw [look_cons, List.mem_cons]
    by_cases h : cmpN p.1 z.1 < 0
    · rw [if_pos h, ← ih]
      exact ⟨fun e => e.elim (fun e => by subst e; exact absurd rfl (cmp_ne h)) id, .inr⟩
    · rw [if_neg h]
      have hz : z ∉ os := fun hm => h (h1 z hm)
      by_cases e : p.1 = z.1
      · rw [if_pos e]
        refine ⟨fun e' => e'.elim (fun e' => by rw [e']) (fun hm => absurd hm hz), fun e' => .inl ?_⟩
        obtain ⟨a, b⟩ := z
        obtain ⟨c, d⟩ := p
        simp at e e'
        rw [e, e']
      · rw [if_neg e]
        exact ⟨fun e' => e'.elim (fun e' => absurd (by rw [e']) e) (fun hm => absurd hm hz), fun e' => by simp at e'⟩
/-- Two rising lists with the same members are the same. -/
theorem rise_ext : ∀ {l m : Obs}, Rise l → Rise m → (∀ z, z ∈ l ↔ z ∈ m) → l = m
  | [], [], _, _, _ => rfl
  | [], q :: m, _, _, h => by have := (h q).2 (by simp); simp at this
  | p :: l, [], _, _, h => by have := (h p).1 (by simp); simp at this
  | p :: l, q :: m, hl, hm, h => by
    obtain ⟨l1, l2⟩ := List.pairwise_cons.1 hl
    obtain ⟨m1, m2⟩ := List.pairwise_cons.1 hm
    have e : p = q := by
      by_cases e : p = q
      · exact e
      · have a : p ∈ m := (List.mem_cons.1 ((h p).1 (by simp))).resolve_left e
        have b : q ∈ l := (List.mem_cons.1 ((h q).2 (by simp))).resolve_left (Ne.symm e)
        have c := cmp_trans (l1 q b) (m1 p a)
        rw [cmpN_self] at c
        omega
    subst e
    have hne : ∀ z, (z ∈ l → z ≠ p) ∧ (z ∈ m → z ≠ p) := fun z => ⟨fun hz e => by subst e; exact cmp_ne (l1 z hz) rfl, fun hz e => by subst e; exact cmp_ne (m1 z hz) rfl⟩
    rw [rise_ext l2 m2 fun z => ⟨fun hz => (List.mem_cons.1 ((h z).1 (List.mem_cons_of_mem _ hz))).resolve_left ((hne z).1 hz), fun hz => (List.mem_cons.1 ((h z).2 (List.mem_cons_of_mem _ hz))).resolve_left ((hne z).2 hz)⟩]
theorem look_ext {l m : Obs} (hl : Rise l) (hm : Rise m) (h : ∀ id, look l id = look m id) : l = m :=
  rise_ext hl hm fun z => by rw [look_mem hl, look_mem hm, h]

def putL (os : Obs) (id : ByteArray) (v : JV) : Obs := if isAt os id = true then os.set (lowN os id) (id, v) else os.take (lowN os id) ++ (id, v) :: os.drop (lowN os id)
def delL (os : Obs) (id : ByteArray) : Obs := if isAt os id = true then os.take (lowN os id) ++ os.drop (lowN os id + 1) else os
theorem putL_nil (id : ByteArray) (v : JV) : putL [] id v = [(id, v)] := by simp [putL, isAt, lowN]
theorem putL_cons (p : ByteArray × JV) (os : Obs) (id : ByteArray) (v : JV) : putL (p :: os) id v = if cmpN p.1 id < 0 then p :: putL os id v else if p.1 = id then (id, v) :: os else (id, v) :: p :: os := by
  unfold putL
  rw [isAt_cons, lowN_cons]
  by_cases h : cmpN p.1 id < 0
  · simp only [if_pos h]
    by_cases e : isAt os id = true <;> simp [e]
  · simp only [if_neg h]
    by_cases e : p.1 = id <;> simp [e]
theorem delL_nil (id : ByteArray) : delL [] id = [] := by simp [delL]
theorem delL_cons (p : ByteArray × JV) (os : Obs) (id : ByteArray) : delL (p :: os) id = if cmpN p.1 id < 0 then p :: delL os id else if p.1 = id then os else p :: os := by
  unfold delL
  rw [isAt_cons, lowN_cons]
  by_cases h : cmpN p.1 id < 0
  · simp only [if_pos h]
    by_cases e : isAt os id = true <;> simp [e]
  · simp only [if_neg h]
    by_cases e : p.1 = id <;> simp [e]
theorem putL_mem : ∀ {os : Obs} (hr : Rise os) (id : ByteArray) (v : JV) (z : ByteArray × JV), z ∈ putL os id v ↔ z = (id, v) ∨ z ∈ os ∧ z.1 ≠ id
  | [], _, id, v, z => by simp [putL_nil]
  | p :: os, hr, id, v, z => by
    obtain ⟨h1, h2⟩ := List.pairwise_cons.1 hr
    have ih := putL_mem h2 id v z
    rw [putL_cons]
    by_cases h : cmpN p.1 id < 0
    · have hp := cmp_ne h
      simp only [if_pos h, List.mem_cons, ih]
      constructor
      · rintro (rfl | h | h)
        · exact .inr ⟨.inl rfl, hp⟩
        · exact .inl h
        · exact .inr ⟨.inr h.1, h.2⟩
      · rintro (h | ⟨rfl | h, h3⟩)
        · exact .inr (.inl h)
        · exact .inl rfl
        · exact .inr (.inr ⟨h, h3⟩)
    · simp only [if_neg h]
      by_cases e : p.1 = id
      · have hn : ∀ y ∈ os, y.1 ≠ id := fun y hy e2 => cmp_ne (h1 y hy) (by rw [e, e2])
        simp only [if_pos e, List.mem_cons]
        constructor
        · rintro (h | h)
          · exact .inl h
          · exact .inr ⟨.inr h, hn z h⟩
        · rintro (h | ⟨rfl | h, h3⟩)
          · exact .inl h
          · exact absurd e h3
          · exact .inr h
      · have hlt : cmpN id p.1 < 0 := by
          rcases cmp_tri p.1 id with h3 | h3 | h3
          · exact absurd h3 h
          · exact absurd h3 e
          · exact h3
        have hn : ∀ y ∈ os, y.1 ≠ id := fun y hy e2 => cmp_ne (cmp_trans hlt (h1 y hy)) e2.symm
        simp only [if_neg e, List.mem_cons]
        constructor
        · rintro (h | rfl | h)
          · exact .inl h
          · exact .inr ⟨.inl rfl, e⟩
          · exact .inr ⟨.inr h, hn z h⟩
        · rintro (h | ⟨h, _⟩)
          · exact .inl h
          · exact .inr h
theorem putL_rise : ∀ {os : Obs} (hr : Rise os) (id : ByteArray) (v : JV), Rise (putL os id v)
  | [], _, id, v => by rw [putL_nil]; exact List.pairwise_singleton _ _
  | p :: os, hr, id, v => by
    obtain ⟨h1, h2⟩ := List.pairwise_cons.1 hr
    have ih := putL_rise h2 id v
    rw [putL_cons]
    by_cases h : cmpN p.1 id < 0
    · rw [if_pos h]
      refine List.pairwise_cons.2 ⟨fun z hz => ?_, ih⟩
      rcases (putL_mem h2 id v z).1 hz with rfl | ⟨hz, _⟩
      · exact h
      · exact h1 z hz
    · rw [if_neg h]
      by_cases e : p.1 = id
      · rw [if_pos e]
        exact List.pairwise_cons.2 ⟨fun z hz => by have := h1 z hz; rw [e] at this; exact this, h2⟩
      · have hlt : cmpN id p.1 < 0 := by
          rcases cmp_tri p.1 id with h3 | h3 | h3
          · exact absurd h3 h
          · exact absurd h3 e
          · exact h3
        rw [if_neg e]
        refine List.pairwise_cons.2 ⟨fun z hz => ?_, hr⟩
        rcases List.mem_cons.1 hz with rfl | hz
        · exact hlt
        · exact cmp_trans hlt (h1 z hz)
theorem delL_mem : ∀ {os : Obs} (hr : Rise os) (id : ByteArray) (z : ByteArray × JV), z ∈ delL os id ↔ z ∈ os ∧ z.1 ≠ id
  | [], _, id, z => by simp [delL_nil]
  | p :: os, hr, id, z => by
    obtain ⟨h1, h2⟩ := List.pairwise_cons.1 hr
    have ih := delL_mem h2 id z
    rw [delL_cons]
    by_cases h : cmpN p.1 id < 0
    · have hp := cmp_ne h
      simp only [if_pos h, List.mem_cons, ih]
      constructor
      · rintro (rfl | h)
        · exact ⟨.inl rfl, hp⟩
        · exact ⟨.inr h.1, h.2⟩
      · rintro ⟨rfl | h, h3⟩
        · exact .inl rfl
        · exact .inr ⟨h, h3⟩
    · simp only [if_neg h]
      by_cases e : p.1 = id
      · have hn : ∀ y ∈ os, y.1 ≠ id := fun y hy e2 => cmp_ne (h1 y hy) (by rw [e, e2])
        simp only [if_pos e, List.mem_cons]
        constructor
        · intro h
          exact ⟨.inr h, hn z h⟩
        · rintro ⟨rfl | h, h3⟩
          · exact absurd e h3
          · exact h
      · have hlt : cmpN id p.1 < 0 := by
          rcases cmp_tri p.1 id with h3 | h3 | h3
          · exact absurd h3 h
          · exact absurd h3 e
          · exact h3
        have hn : ∀ y ∈ os, y.1 ≠ id := fun y hy e2 => cmp_ne (cmp_trans hlt (h1 y hy)) e2.symm
        simp only [if_neg e, List.mem_cons]
        constructor
        · rintro (rfl | h)
          · exact ⟨.inl rfl, e⟩
          · exact ⟨.inr h, hn z h⟩
        · rintro ⟨h, _⟩
          exact h
theorem delL_sub : ∀ (os : Obs) (id : ByteArray), (delL os id).Sublist os
  | [], id => by rw [delL_nil]; exact List.Sublist.refl _
  | p :: os, id => by
    rw [delL_cons]
    by_cases h : cmpN p.1 id < 0
    · rw [if_pos h]
      exact (delL_sub os id).cons_cons p
    · rw [if_neg h]
      by_cases e : p.1 = id
      · rw [if_pos e]
        exact List.sublist_cons_self _ _
      · rw [if_neg e]
        exact List.Sublist.refl _
theorem delL_rise {os : Obs} (hr : Rise os) (id : ByteArray) : Rise (delL os id) := hr.sublist (delL_sub os id)
/-- What is looked up after an act. -/
theorem look_of {os ns : Obs} (hr : Rise os) (hn : Rise ns) {id : ByteArray} (h : ∀ v, (id, v) ∈ ns ↔ (id, v) ∈ os) : look ns id = look os id := by
  cases e : look os id with
  | some v => exact (look_mem hn (id, v)).1 ((h v).2 ((look_mem hr (id, v)).2 e))
  | none =>
    cases e2 : look ns id with
    | none => rfl
    | some v =>
      have := (look_mem hr (id, v)).1 ((h v).1 ((look_mem hn (id, v)).2 e2))
      rw [e] at this
      simp at this
theorem look_put {os : Obs} (hr : Rise os) (id : ByteArray) (v : JV) : look (putL os id v) id = some v := (look_mem (putL_rise hr id v) (id, v)).1 ((putL_mem hr id v _).2 (.inl rfl))
theorem look_put_ne {os : Obs} (hr : Rise os) {id k : ByteArray} (v : JV) (hk : k ≠ id) : look (putL os id v) k = look os k :=
  look_of hr (putL_rise hr id v) fun u => by
    rw [putL_mem hr]
    exact ⟨fun h => h.elim (fun e => absurd (congrArg Prod.fst e) hk) (·.1), fun h => .inr ⟨h, hk⟩⟩
theorem look_del {os : Obs} (hr : Rise os) (id : ByteArray) : look (delL os id) id = none := by
  cases e : look (delL os id) id with
  | none => rfl
  | some v =>
    have := (delL_mem hr id (id, v)).1 ((look_mem (delL_rise hr id) (id, v)).2 e)
    exact absurd rfl this.2
theorem look_del_ne {os : Obs} (hr : Rise os) {id k : ByteArray} (hk : k ≠ id) : look (delL os id) k = look os k :=
  look_of hr (delL_rise hr id) fun u => by
    rw [delL_mem hr]
    exact ⟨(·.1), fun h => ⟨h, hk⟩⟩
end Go.Proofs.Ythgkgjcnmahacaa
end

section
/- Right values are the same but for the order of members just if they are one when sorted. -/
set_option linter.unusedSimpArgs false
set_option linter.unusedVariables false
namespace Go.Proofs.Ythgkgjcnmahacaa
open Go Go.RowKit

theorem nodup_names {k n : Int} {s : ByteArray} {l : List JV} {m : List (ByteArray × JV)} {d : Nat} (h : okT (.mk k n s l m) d) : (m.map (·.1)).Nodup := by
  have := okT_names h
  unfold goodN at this
  simp only [Bool.and_eq_true, decide_eq_true_eq] at this
  exact this.2
theorem find_name {m : List (ByteArray × JV)} (hn : (m.map (·.1)).Nodup) {j : Nat} {q : ByteArray × JV} (hq : m[j]? = some q) : m.findIdx? (fun x => decide (x.1 = q.1)) = some j := by
  refine find_at hq (by simp) (fun i y hi hy => ?_)
  rw [decide_eq_false_iff_not]
  intro e
  obtain ⟨h1, h2⟩ := List.getElem?_eq_some_iff.1 hy
  obtain ⟨h3, h4⟩ := List.getElem?_eq_some_iff.1 hq
  have h5 := (List.pairwise_iff_getElem.1 hn) i j (by simpa using h1) (by simpa using h3) hi
  simp only [List.getElem_map] at h5
  exact h5 (by rw [h2, h4]; exact e)
theorem mem_name {m : List (ByteArray × JV)} (hn : (m.map (·.1)).Nodup) {p q : ByteArray × JV} (hp : p ∈ m) (hq : q ∈ m) (h : p.1 = q.1) : p = q := by
  obtain ⟨i, hi⟩ := List.getElem?_of_mem hp
  obtain ⟨j, hj⟩ := List.getElem?_of_mem hq
  have h1 := find_name hn hi
  have h2 := find_name hn hj
  rw [h] at h1
  rw [h1] at h2
  cases h2
  rw [hi] at hj
  cases hj
  rfl
/-- Sorted, a value is the same. -/
theorem SortOf.same {t u : JV} (h : SortOf t u) : ∀ d, okT t d → SameT t u ∧ SameT u t := by
  induction h with
  | @mk k n s l l' m mm m' el cl em cn cm st ihl ihm =>
    intro d ho
    have hu := (SortOf.mk (k := k) (n := n) (s := s) el cl em cn cm st).stays d ho
    have hn := nodup_names ho
    have hn' := nodup_names hu
    have hlen := st.perm.length_eq
    have hno := ho
    rw [okT] at ho
    obtain ⟨h1, h2, h3, h4, h5⟩ := ho
    rw [okL_iff] at h4
    rw [okM_iff] at h5
    -- a member, and what it is sorted
    have hto : ∀ (i : Nat) (p : ByteArray × JV), m[i]? = some p → ∃ q, q ∈ m' ∧ q.1 = p.1 ∧ SameT p.2 q.2 ∧ SameT q.2 p.2 := by
      intro i p hp
      obtain ⟨q, hq⟩ : ∃ q, mm[i]? = some q := ⟨_, List.getElem?_eq_getElem (by have := (List.getElem?_eq_some_iff.1 hp).1; omega)⟩
      have := ihm i p q hp hq _ (h5 p (List.mem_of_getElem? hp))
      exact ⟨q, st.perm.mem_iff.2 (List.mem_of_getElem? hq), (cn i p q hp hq).symm, this.1, this.2⟩
    have hfro : ∀ (j : Nat) (q : ByteArray × JV), m'[j]? = some q → ∃ p, p ∈ m ∧ q.1 = p.1 ∧ SameT p.2 q.2 ∧ SameT q.2 p.2 := by
      intro j q hq
      obtain ⟨i, hi⟩ := List.getElem?_of_mem (st.perm.mem_iff.1 (List.mem_of_getElem? hq))
      obtain ⟨p, hp⟩ := at_same em hi
      have := ihm i p q hp hi _ (h5 p (List.mem_of_getElem? hp))
      exact ⟨p, List.mem_of_getElem? hp, (cn i p q hp hi).symm, this.1, this.2⟩
    have hll : ∀ (i : Nat) (x y : JV), l[i]? = some x → l'[i]? = some y → SameT x y ∧ SameT y x := fun i x y hx hy => ihl i x y hx hy _ (h4 x (List.mem_of_getElem? hx))
    refine ⟨.mk el.symm (by omega) (fun i x y hx hy => (hll i x y hx hy).1) ?_ ?_, .mk el (by omega) (fun i x y hx hy => (hll i y x hy hx).2) ?_ ?_⟩
    · intro i p hp e
      obtain ⟨q, hq, h6, _⟩ := hto i p hp
      obtain ⟨j, hj⟩ := List.getElem?_of_mem hq
      have := find_name hn' hj
      rw [h6, e] at this
      cases this
    · intro i j p q hp hf hq
      obtain ⟨q', hq', h6, h7, _⟩ := hto i p hp
      obtain ⟨j', hj'⟩ := List.getElem?_of_mem hq'
      have := find_name hn' hj'
      rw [h6, hf] at this
      cases this
      rw [hq] at hj'
      cases hj'
      exact h7
    · intro j q hq e
      obtain ⟨p, hp, h6, _⟩ := hfro j q hq
      obtain ⟨i, hi⟩ := List.getElem?_of_mem hp
      have := find_name hn hi
      rw [← h6, e] at this
      cases this
    · intro j i q p hq hf hp
      obtain ⟨p', hp', h6, _, h7⟩ := hfro j q hq
      obtain ⟨i', hi'⟩ := List.getElem?_of_mem hp'
      have := find_name hn hi'
      rw [← h6, hf] at this
      cases this
      rw [hp] at hi'
      cases hi'
      exact h7
/-- Sorted members of unlike names rise. -/
theorem stable_rise {mm m' : List (ByteArray × JV)} (st : IsStable cfJ mm m') (hn : (m'.map (·.1)).Nodup) : Rise m' := by
  obtain ⟨ts, hp, hw, rfl⟩ := st
  unfold Rise
  rw [List.map_map] at hn
  rw [List.pairwise_map]
  have hn2 : ts.Pairwise (fun a b => a.1.1 ≠ b.1.1) := by
    have : (ts.map (fun a => a.1.1)).Nodup := hn
    rw [List.Nodup, List.pairwise_map] at this
    exact this
  refine (hw.and hn2).imp fun {a b} h => ?_
  obtain ⟨h1, h2⟩ := h
  rw [tlt_iff] at h1
  rcases cmp_tri a.1.1 b.1.1 with h | h | h
  · exact h
  · exact absurd h h2
  · exfalso
    have := cmpN_neg a.1.1 b.1.1
    rcases h1 with h1 | h1
    · have h3 : cmpN a.1.1 b.1.1 < 0 := h1
      omega
    · exact h1.1 h
theorem rise_sub : ∀ {l m : Obs}, Rise l → Rise m → (∀ z ∈ l, z ∈ m) → l.Sublist m
  | [], m, _, _, _ => List.nil_sublist _
  | a :: l, [], _, _, h => absurd (h a (by simp)) (by simp)
  | a :: l, b :: m, hl, hm, h => by
    have hl1 := List.pairwise_cons.1 hl
    have hm1 := List.pairwise_cons.1 hm
    by_cases e : a = b
    · subst e
      refine (rise_sub hl1.2 hm1.2 (fun z hz => ?_)).cons_cons a
      rcases List.mem_cons.1 (h z (List.mem_cons_of_mem _ hz)) with rfl | hz2
      · exact absurd rfl (cmp_ne (hl1.1 z hz))
      · exact hz2
    · refine (rise_sub hl hm1.2 (fun z hz => ?_)).cons b
      have ha : a ∈ m := by
        rcases List.mem_cons.1 (h a (by simp)) with h1 | h1
        · exact absurd h1 e
        · exact h1
      rcases List.mem_cons.1 (h z hz) with rfl | hz2
      · exfalso
        have h1 := hm1.1 a ha
        rcases List.mem_cons.1 hz with h2 | h2
        · exact e h2.symm
        · have h3 := hl1.1 z h2
          have := cmpN_neg a.1 z.1
          omega
      · exact hz2
termination_by l m => l.length + m.length
/-- Right values that are the same are one when sorted. -/
theorem SameT.sorted {t u : JV} (h : SameT t u) : ∀ (d e : Nat) (a b : JV), okT t d → okT u e → SortOf t a → SortOf u b → a = b := by
  induction h with
  | @mk k n s l1 l2 m1 m2 el em cl cf cm ihl ihm =>
    intro d e a b h1 h2 ha hb
    have hok1 := ha.stays d h1
    have hok2 := hb.stays e h2
    cases ha with
    | @mk _ _ _ _ la _ mma ma ela cla ema cna cma sta =>
    cases hb with
    | @mk _ _ _ _ lb _ mmb mb elb clb emb cnb cmb stb =>
    have n1 := nodup_names h1
    have n2 := nodup_names h2
    have na := nodup_names hok1
    have nb := nodup_names hok2
    rw [okT] at h1 h2
    obtain ⟨_, _, _, ol1, om1⟩ := h1
    obtain ⟨_, _, _, ol2, om2⟩ := h2
    rw [okL_iff] at ol1 ol2
    rw [okM_iff] at om1 om2
    have hl : la = lb := by
      apply List.ext_getElem?
      intro i
      cases hx : la[i]? with
      | none =>
        have : lb[i]? = none := by rw [List.getElem?_eq_none_iff] at hx ⊢; omega
        rw [this]
      | some x =>
        obtain ⟨t1, ht1⟩ := at_same ela hx
        obtain ⟨t2, ht2⟩ : ∃ t, l2[i]? = some t := ⟨_, List.getElem?_eq_getElem (by have := (List.getElem?_eq_some_iff.1 ht1).1; omega)⟩
        obtain ⟨y, hy⟩ : ∃ t, lb[i]? = some t := ⟨_, List.getElem?_eq_getElem (by have := (List.getElem?_eq_some_iff.1 ht2).1; omega)⟩
        rw [hy, ihl i t1 t2 ht1 ht2 _ _ x y (ol1 _ (List.mem_of_getElem? ht1)) (ol2 _ (List.mem_of_getElem? ht2)) (cla i t1 x ht1 hx) (clb i t2 y ht2 hy)]
    have hm : ma = mb := by
      refine (rise_sub (stable_rise sta na) (stable_rise stb nb) (fun z hz => ?_)).eq_of_length (by have := sta.perm.length_eq; have := stb.perm.length_eq; omega)
      obtain ⟨i, hi⟩ := List.getElem?_of_mem (sta.perm.mem_iff.1 hz)
      obtain ⟨p, hp⟩ := at_same ema hi
      have hf := cf i p hp
      cases hj : m2.findIdx? (fun q => decide (q.1 = p.1)) with
      | none => exact absurd hj hf
      | some j =>
        obtain ⟨hjl, hjp, _⟩ := List.findIdx?_eq_some_iff_getElem.1 hj
        have hq : m2[j]? = some m2[j] := List.getElem?_eq_getElem hjl
        have hqn : m2[j].1 = p.1 := by simpa using hjp
        obtain ⟨y, hy⟩ : ∃ t, mmb[j]? = some t := ⟨_, List.getElem?_eq_getElem (by omega)⟩
        have e1 := ihm i j p _ hp hj hq _ _ z.2 y.2 (om1 _ (List.mem_of_getElem? hp)) (om2 _ (List.mem_of_getElem? hq)) (cma i p z hp hi) (cmb j _ y hq hy)
        have e2 : z = y := Prod.ext (by rw [← cna i p z hp hi, ← cnb j _ y hq hy, hqn]) e1
        rw [e2]
        exact stb.perm.mem_iff.2 (List.mem_of_getElem? hy)
    rw [hl, hm]
/-- Right values that are one when sorted are the same. -/
theorem SortOf.both {t a : JV} (h : SortOf t a) : ∀ (u : JV) (d e : Nat), Proofs.Ythgkgjcnmahacaa.okT t d → Proofs.Ythgkgjcnmahacaa.okT u e → SortOf u a → SameT t u := by
  induction h with
  | @mk k n s l l' m mm m' el cl em cn cm st ihl ihm =>
    intro u d e h1 h2 hb
    cases hb with
    | @mk _ _ _ l2 _ m2 mm2 _ el2 cl2 em2 cn2 cm2 st2 =>
    have n2 := nodup_names h2
    have hlen1 := st.perm.length_eq
    have hlen2 := st2.perm.length_eq
    rw [Proofs.Ythgkgjcnmahacaa.okT] at h1 h2
    obtain ⟨_, _, _, ol1, om1⟩ := h1
    obtain ⟨_, _, _, ol2, om2⟩ := h2
    rw [okL_iff] at ol1 ol2
    rw [okM_iff] at om1 om2
    have hto : ∀ (i : Nat) (p : ByteArray × JV), m[i]? = some p → ∃ (j : Nat) (q : ByteArray × JV), m2[j]? = some q ∧ q.1 = p.1 ∧ SameT p.2 q.2 := by
      intro i p hp
      obtain ⟨z, hz⟩ : ∃ q, mm[i]? = some q := ⟨_, List.getElem?_eq_getElem (by have := (List.getElem?_eq_some_iff.1 hp).1; omega)⟩
      obtain ⟨j, hj⟩ := List.getElem?_of_mem (st2.perm.mem_iff.1 (st.perm.mem_iff.2 (List.mem_of_getElem? hz)))
      obtain ⟨q, hq⟩ := at_same em2 hj
      exact ⟨j, q, hq, by rw [cn i p z hp hz, cn2 j q z hq hj], ihm i p z hp hz q.2 _ _ (om1 p (List.mem_of_getElem? hp)) (om2 q (List.mem_of_getElem? hq)) (cm2 j q z hq hj)⟩
    refine .mk (by omega) (by omega) ?_ ?_ ?_
    · intro i x y hx hy
      obtain ⟨z, hz⟩ : ∃ q, l'[i]? = some q := ⟨_, List.getElem?_eq_getElem (by have := (List.getElem?_eq_some_iff.1 hx).1; omega)⟩
      exact ihl i x z hx hz y _ _ (ol1 x (List.mem_of_getElem? hx)) (ol2 y (List.mem_of_getElem? hy)) (cl2 i y z hy hz)
    · intro i p hp hf
      obtain ⟨j, q, hq, h6, _⟩ := hto i p hp
      have := find_name n2 hq
      rw [h6, hf] at this
      cases this
    · intro i j p q hp hf hq
      obtain ⟨j', q', hq', h6, h7⟩ := hto i p hp
      have := find_name n2 hq'
      rw [h6, hf] at this
      cases this
      rw [hq] at hq'
      cases hq'
      exact h7
end Go.Proofs.Ythgkgjcnmahacaa
end

section
/- Bytes in a slice of the call's own; a text appended to them; they, turned into a text. Plain laws. -/
set_option linter.unusedSimpArgs false
set_option linter.unusedVariables false
namespace Go.Proofs.Ythgkgjcnmahacaa
open Go Go.RowKit

def encU (b : UInt8) : List Value := [.int .u8 b.toNat]
theorem codecU : Codec encU 1 := ⟨fun _ => rfl, fun x u hu => by
  simp only [encU, List.mem_cons, List.not_mem_nil, or_false] at hu
  subst hu; rfl, by decide⟩
theorem infoU : (Try.prog.info? 5).map (fun i => (i.zero, i.size, i.bytes)) = some (some (.int .u8 0), 1, 1) := by kernel_rfl
theorem slU : SlT Try.prog 112 5 1 1 := SlT.mk Try.underlying112 infoU rfl
/-- A list of bytes as a text. -/
def toB (l : List UInt8) : ByteArray := ⟨l.toArray⟩
theorem toB_inj {a b : List UInt8} (h : toB a = toB b) : a = b := by
  have := congrArg (fun x => x.data.toList) h
  simpa [toB] using this
theorem toB_size (l : List UInt8) : (toB l).size = l.length := by simp [toB, ByteArray.size]
theorem cells_bytes (l : List UInt8) : cellsOf encU l = l.map (fun b => Value.int .u8 b.toNat) := by
  induction l with
  | nil => rfl
  | cons b l ih =>
    unfold cellsOf at ih ⊢
    rw [List.flatMap_cons, ih]
    rfl
theorem cells_str (s : ByteArray) : Lib.strCells s = cellsOf encU s.data.toList := (cells_bytes _).symm
/-- Bytes in a slice of the call's own. -/
abbrev OwnU (w : World) (base : Nat) (v : Value) (l : List UInt8) : Prop := Own w base 5 encU 1 v l

theorem str_len (s : ByteArray) : s.data.toList.length = s.size := Array.length_toList
theorem run_append_str (w : World) (ty : TypeId) {base : Nat} {v : Value} {l : List UInt8} (hown : OwnU w base v l) (s : ByteArray) (hlen : l.length + s.size ≤ 140737488355328) (hbase : base ≤ w.heap.size) :
    ∃ v' w', (Builtin.append_ #[112, 9] ty #[v, .string s]).run Try.prog w = .ok v' w' ∧ OwnU w' base v' (l ++ s.data.toList) ∧ w.grownBy w' v.ownBlock := by
  obtain ⟨i, hi, hz, hs1, hby⟩ := info_parts infoU
  have hO : w.ownsRow base 5 1 v l.length (cellsOf encU l) := hown
  obtain ⟨v', w', hr, h2, h3, _⟩ := Lib.run_append_own_string (P := Try.prog) w base 112 9 ty 5 i Try.underlying112 Try.underlying9 hi hz hs1 hby v l.length (cellsOf encU l) hO s (by unfold maxLen; omega) hlen hbase
  refine ⟨v', w', hr, ?_, h3⟩
  unfold OwnU Own
  rw [cellsOf_append, List.length_append, str_len, ← cells_str]
  exact h2
theorem wpList_append_str {ops : Array Oper} {rest : List Oper} {o : Oper} {a : Act} {Q : Exit → Act → World → Prop} (w : World) (hgd : o.guard = none) (s x : Operand)
    (ho : o.op = .call { callee := .builtin .append, args := #[s, x], argTypes := #[112, 9] }) {base : Nat} {v : Value} {l : List UInt8} {t : ByteArray} (hs : a.eval s = v) (hx : a.eval x = .string t) (hown : OwnU w base v l)
    (hlen : l.length + t.size ≤ 140737488355328) (hbase : base ≤ w.heap.size)
    (h : ∀ v' w', OwnU w' base v' (l ++ t.data.toList) → w.grownBy w' v.ownBlock → wpList Try.prog ops Q rest (a.put o.dst v') w') : wpList Try.prog ops Q (o :: rest) a w := by
  refine wpList_plain hgd fun K hK => ?_
  obtain ⟨v', w', hr, h2, h3⟩ := run_append_str w o.type hown t hlen hbase
  unfold Oper.wp execOp
  simp only [ho, resolve, invoke, builtin, Sem.run_bind, Sem.run_pure, Result.andThen_ok, List.map_toArray, List.map_cons, List.map_nil, hs, hx, hr]
  exact hK _ _ (h v' w' h2 h3)
/-- A row just built, appended: its bytes. -/
theorem rd_bytes {w : World} {g n : Nat} {l : List UInt8} {cs : Array Value} (hg : g < w.heap.size) (h : w.heap[g]? = some (.cells cs 5 (0, 0))) (hc : cs.toList = cellsOf encU l) (hn : n = l.length) (hm : l.length ≤ maxLen) : Rd w w.heap.size encU 1 (.slice (some ⟨g, 0, none⟩) n n) l := by
  subst hn
  exact Rd.block codecU h hc hg hm
/-- The slice's bytes, turned into a text. -/
theorem str_of_own {w : World} {base : Nat} {v : Value} {l : List UInt8} (h : OwnU w base v l) : (convert 112 9 v).run Try.prog w = .ok (.string (toB l)) w := by
  have hO : w.ownsRow base 5 1 v l.length (cellsOf encU l) := h
  rcases hO.2 with ⟨rfl, hn⟩ | ⟨g, cap, cur, rfl, _⟩
  · have : l = [] := List.eq_nil_of_length_eq_zero hn
    subst this
    exact Lib.run_convert_nil_bytes w _ _ _ 0 Try.underlying112 Try.underlying5 Try.underlying9
  · refine run_convert_bytes_back w _ _ _ _ cap l Try.underlying112 Try.underlying5 Try.underlying9 (fun j hj => ?_)
    refine hO.cells (g := g) rfl j _ ?_
    rw [cells_bytes, List.getElem?_map, List.getElem?_eq_getElem hj]
    rfl
end Go.Proofs.Ythgkgjcnmahacaa
end
