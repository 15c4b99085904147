import Derived.Test.YthgkgjcnmahacaaSo17
section
/- store.Drop, walked. -/
set_option linter.unusedSimpArgs false
set_option linter.unusedVariables false
namespace Go.Proofs.Ythgkgjcnmahacaa
open Go.RowKit Go.OpenShut

/-- What Drop answers: the box, and why not. -/
def dropB (b : BoxD) (id : ByteArray) : BoxD × Int :=
  if isAt b.objs id = false then (BoxD.zero, 81) else if 9007199254740991 ≤ b.seq then (BoxD.zero, 180) else (chgB b (b.objs.take (lowN b.objs id) ++ b.objs.drop (lowN b.objs id + 1)) id 3, 0)

/-- A box and what is answered, in blocks of their own. -/
structure TwoB (w W : World) (r : RB) : Prop where
  box : BoxAt W w.heap.size r
  zero : BoxAt W (w.heap.size + 1) RB.zero
  below : Below w.heap.size w W
section
variable {w W W' : World} {r : RB} (h : TwoB w W r)
include h
theorem TwoB.size : w.heap.size + 1 < W.heap.size := h.zero.lt
theorem TwoB.go (hb : Below W.heap.size W W') : TwoB w W' r := ⟨h.box.under hb h.box.lt, h.zero.under hb h.size, h.below.trans (hb.mono h.below.size)⟩
theorem TwoB.setBox (q : RB) (hq : BoxAt W' w.heap.size q) (hg : W.grownBy W' (some w.heap.size)) : TwoB w W' q := ⟨hq, h.zero.kept hg (by omega), h.below.grown hg h.below.size (fun a e => by cases e; exact Nat.le_refl _)⟩
theorem TwoB.row {row : Option Nat} (hg : W.grownBy W' row) (hr : ∀ k, row = some k → w.heap.size + 1 < k) : TwoB w W' r := by
  have hz := h.size
  have hb : ∀ k, k ≤ w.heap.size + 1 → W'.heap[k]? = W.heap[k]? := fun k hk => hg.block k (by omega) (fun e => by have := hr k e.symm; omega)
  exact ⟨(hb _ (by omega)).trans h.box, (hb _ (by omega)).trans h.zero, h.below.grown hg h.below.size (fun a e => by have := hr a e; omega)⟩
end
theorem TwoB.start (w : World) (r : RB) : TwoB w ((w.alloc (.cells #[.slice r.po r.no r.co, .slice r.pt r.nt r.ct, .int .i64 r.sq, .int .i64 r.fl, .int .i64 r.kp] 35)).alloc (.cells #[.slice none 0 0, .slice none 0 0, .int .i64 0, .int .i64 0, .int .i64 0] 35)) r := ⟨heap_alloc_lt (by simp) (heap_alloc_at rfl), heap_alloc_at (by simp), below2 _ _ _⟩

set_option maxRecDepth 200000 in
set_option maxHeartbeats 8000000 in
theorem drop_any (b : BoxD) (r : RB) (id : ByteArray) (w : World) (hb : BoxOf w w.heap.size b r) (hr : Rising b.objs) (ob : b.Ok) (hid : id.size ≤ 140737488351232) :
    Calls Try.prog 23 #[r.val, .string id] w (BoxErr w (dropB b id)) := by
  have hS := TwoB.start w r
  have HBX := Lib.hid hb
  have HR := Lib.hid hr
  have HOB := Lib.hid ob
  have HID := Lib.hid hid
  have HSQ : Hid (b.seq = r.sq ∧ b.objs.length = r.no) := ⟨hb.seq, hb.objs.nlen⟩
  clear hb hr ob hid
  go_enter Try.func23, Try.ntmps23
  go_upto_region 1 with fail
  obtain ⟨W0, hW0⟩ : ∃ W0, ((w.alloc (.cells #[.slice r.po r.no r.co, .slice r.pt r.nt r.ct, .int .i64 r.sq, .int .i64 r.fl, .int .i64 r.kp] 35)).alloc (.cells #[.slice none 0 0, .slice none 0 0, .int .i64 0, .int .i64 0, .int .i64 0] 35)) = W0 := ⟨_, rfl⟩
  rw [hW0] at hS ⊢
  clear hW0
  have HS := Lib.hid hS
  have hz0 := hS.size
  have c0 := hS.box.cell 0 rfl
  have c1 := hS.box.cell 1 rfl
  have c2 := hS.box.cell 2 rfl
  have c3 := hS.box.cell 3 rfl
  have c4 := hS.box.cell 4 rfl
  have HPL := Lib.hid (placeO_any b r id W0 (HBX.out.under hS.below hS.below.size) HR.out HOB.out)
  clear hS
  go_upto_region 2 with (go_at_call 59; refine HPL.out.mono ?_; rintro e w1 ⟨rfl, hb1⟩)
  have HS1 := Lib.hid (HS.out.go hb1)
  clear HPL HS hb1 c0 c1 c2 c3 c4 hz0
  have hz1 := HS1.out.size
  have c0 := HS1.out.box.cell 0 rfl
  have c1 := HS1.out.box.cell 1 rfl
  have c2 := HS1.out.box.cell 2 rfl
  have c3 := HS1.out.box.cell 3 rfl
  have c4 := HS1.out.box.cell 4 rfl
  have z0 := HS1.out.zero.cell 0 rfl
  have z1 := HS1.out.zero.cell 1 rfl
  have z2 := HS1.out.zero.cell 2 rfl
  have z3 := HS1.out.zero.cell 3 rfl
  have z4 := HS1.out.zero.cell 4 rfl
  have y0 := HS1.out.zero.frozen 0
  have y1 := HS1.out.zero.frozen 1
  have y2 := HS1.out.zero.frozen 2
  have y3 := HS1.out.zero.frozen 3
  have y4 := HS1.out.zero.frozen 4
  dsimp only [RB.zero] at z0 z1 z2 z3 z4
  cases hat : isAt b.objs id with
  | false =>
    have HX : Hid (dropB b id = (BoxD.zero, 81)) := by unfold Hid dropB; rw [if_pos hat]
    clear hat
    go_wp2_with fail
    refine bodyPost_ret (v := .tuple #[RB.val RB.zero, .int .i64 81]) (by simp [results, Try.results23, go_sem, RB.zero, z0, z1, z2, z3, z4]) rfl ?_
    exact ⟨RB.zero, by rw [HX.out], by rw [HX.out]; exact NewBox.zero _ _ _, HS1.out.below.grown (grownBy_setB _ _ RB.zero) HS1.out.below.size (fun a e => by cases e; omega)⟩
  | true =>
    obtain ⟨p, hp, hpi, hpo⟩ := isAt_some hat
    have hi := (List.getElem?_eq_some_iff.1 hp).1
    have HAT := Lib.hid hat
    have HILT : Hid (lowN b.objs id < b.objs.length) := hi
    have HP := Lib.hid hp
    clear hat hp hpi hpo hi
    by_cases hfull : 9007199254740991 ≤ b.seq
    · have HX : Hid (dropB b id = (BoxD.zero, 180)) := by unfold Hid dropB; rw [if_neg (by rw [HAT.out]; decide), if_pos hfull]
      have hq : decide ((9007199254740991 : Int) ≤ r.sq) = true := by have := HSQ.out.1; simp; omega
      clear hfull
      go_wp2_with fail
      refine bodyPost_ret (v := .tuple #[RB.val RB.zero, .int .i64 180]) (by simp [results, Try.results23, go_sem, RB.zero, z0, z1, z2, z3, z4]) rfl ?_
      exact ⟨RB.zero, by rw [HX.out], by rw [HX.out]; exact NewBox.zero _ _ _, HS1.out.below.grown (grownBy_setB _ _ RB.zero) HS1.out.below.size (fun a e => by cases e; omega)⟩
    · have HX : Hid (dropB b id = (chgB b (b.objs.take (lowN b.objs id) ++ b.objs.drop (lowN b.objs id + 1)) id 3, 0)) := by unfold Hid dropB; rw [if_neg (by rw [HAT.out]; decide), if_neg hfull]
      have hq : decide ((9007199254740991 : Int) ≤ r.sq) = false := by have := HSQ.out.1; simp; omega
      have HFU := Lib.hid hfull
      clear hfull
      clear z0 z1 z2 z3 z4 y0 y1 y2 y3 y4
      go_upto_region 7 with (go_at_call 63; refine (own_any b r _ w.heap.size HS1.out.below.size (HBX.out.under HS1.out.below (Nat.le_refl _)) HOB.out).mono ?_; rintro e w4 ⟨q1, rfl, hN1, hb4⟩; (have HS4 := Lib.hid (HS1.out.go hb4)); clear c0 c1 c2 c3 c4; (have c0 := HS4.out.box.cell 0 rfl); (have c1 := HS4.out.box.cell 1 rfl); (have c2 := HS4.out.box.cell 2 rfl); (have c3 := HS4.out.box.cell 3 rfl); (have c4 := HS4.out.box.cell 4 rfl); (have x0 := HS4.out.box.frozen 0); (have x1 := HS4.out.box.frozen 1); (have x2 := HS4.out.box.frozen 2); (have x3 := HS4.out.box.frozen 3); (have x4 := HS4.out.box.frozen 4))
      have hg5 := grownBy_setB w4 w.heap.size q1
      have HS5 := Lib.hid (HS4.out.setBox q1 (HS4.out.box.stored q1) hg5)
      have hne5 := hN1.ne (g := w.heap.size) (by omega)
      have hN5 := hN1.kept hg5 hne5.1 hne5.2 HS4.out.below.size (Nat.le_refl _)
      obtain ⟨W5, hW5⟩ : ∃ W5, (((((w4.setCell ⟨w.heap.size, 0, none⟩ (.slice q1.po q1.no q1.co)).setCell ⟨w.heap.size, 1, none⟩ (.slice q1.pt q1.nt q1.ct)).setCell ⟨w.heap.size, 2, none⟩ (.int .i64 q1.sq)).setCell ⟨w.heap.size, 3, none⟩ (.int .i64 q1.fl)).setCell ⟨w.heap.size, 4, none⟩ (.int .i64 q1.kp)) = W5 := ⟨_, rfl⟩
      have hz5 : w4.heap.size = W5.heap.size := by rw [← hW5]; simp
      rw [hW5] at HS5 hN5 ⊢
      have hzb := hb4.size
      clear hW5 hg5 hne5 hN1 hb4 HS4 c0 c1 c2 c3 c4 x0 x1 x2 x3 x4
      obtain ⟨bs, hbs⟩ : ∃ n, w1.heap.size = n := ⟨_, rfl⟩
      rw [hbs] at hN5 hz1 hzb
      obtain ⟨ros, hro, hms⟩ := hN5.objs
      have hn1 := hms.len
      have hn2 := rd_nlen (hro.rd codecM)
      have hlenz := HOB.out.objs
      have c0 := HS5.out.box.cell 0 rfl
      have c1 := HS5.out.box.cell 1 rfl
      have c2 := HS5.out.box.cell 2 rfl
      have c3 := HS5.out.box.cell 3 rfl
      have c4 := HS5.out.box.cell 4 rfl
      have x0 := HS5.out.box.frozen 0
      have hDel := deleteO_any W5 bs q1.po q1.no q1.co (lowN b.objs id) ros hro (by omega) (by have := HILT.out; omega) (by omega)
      have hrowb : (Value.slice q1.po (q1.no - 1) q1.co).ownBlock = (Value.slice q1.po q1.no q1.co).ownBlock := by cases q1.po <;> rfl
      unfold DelRet at hDel
      rw [hrowb] at hDel
      have HDel := Lib.hid hDel
      clear hrowb
      have HN5 := Lib.hid hN5
      have HMS := Lib.hid hms
      have HRO := Lib.hid hro
      have HZB : Hid (bs ≤ W5.heap.size) := by unfold Hid; omega
      have hnn : (lowN b.objs id : Int) ≤ 1466015503658 := by have := HILT.out; omega
      have hnn0 : (0 : Int) ≤ (lowN b.objs id : Int) := Int.natCast_nonneg _
      clear hDel hN5 hms hro hn1 hn2 hlenz hzb hz5 hbs
      go_upto_region 8 with (go_at_call 68; refine HDel.out.mono ?_; rintro e w6 ⟨rfl, ho6, hg6⟩; (have HS6' := Lib.hid (HS5.out.row hg6 (fun k e => by have := (HRO.out.lt k e).1; omega))); clear c0 c1 c2 c3 c4 x0; (have c0 := HS6'.out.box.cell 0 rfl); (have c1 := HS6'.out.box.cell 1 rfl); (have c2 := HS6'.out.box.cell 2 rfl); (have c3 := HS6'.out.box.cell 3 rfl); (have c4 := HS6'.out.box.cell 4 rfl); (have x0 := HS6'.out.box.frozen 0); (have x1 := HS6'.out.box.frozen 1); (have x2 := HS6'.out.box.frozen 2); (have x3 := HS6'.out.box.frozen 3); (have x4 := HS6'.out.box.frozen 4))
      have hg7 := grownBy_set w6 w.heap.size 0 (.slice q1.po (q1.no - 1) q1.co)
      have hB7 := HS6'.out.box.set0 q1.po (q1.no - 1) q1.co
      have HS7 := Lib.hid (HS6'.out.setBox _ hB7 hg7)
      obtain ⟨W7, hW7⟩ : ∃ W7, w6.setCell ⟨w.heap.size, 0, none⟩ (.slice q1.po (q1.no - 1) q1.co) = W7 := ⟨_, rfl⟩
      rw [hW7] at HS7 hg7 ⊢
      have hzb7 : bs ≤ W7.heap.size := by have h1 := hg6.size; have h2 := hg7.size; have := HZB.out; omega
      have hb6 : Below w.heap.size W5 w6 := (Below.refl _ _).grown hg6 HS5.out.below.size (fun k e => by have := (HRO.out.lt k e).1; omega)
      have hN6 := HN5.out.withObjs hg6 rfl (by decide) ho6 ((HMS.out.delete (lowN b.objs id)).under hb6 (Nat.le_refl _))
      have hne6 := hN6.ne (g := w.heap.size) (by omega)
      have HN7 := Lib.hid (hN6.kept hg7 hne6.1 hne6.2 (by have := HS6'.out.below.size; omega) (Nat.le_refl _))
      clear hW7 hg7 hB7 hb6 hN6 hne6 ho6 hg6 c0 c1 c2 c3 c4 x0 x1 x2 x3 x4 HS6' HDel
      have hz7 := HS7.out.size
      have hCh := changed_any { b with objs := b.objs.take (lowN b.objs id) ++ b.objs.drop (lowN b.objs id + 1) } ⟨q1.po, q1.no - 1, q1.co, q1.pt, q1.nt, q1.ct, q1.sq, q1.fl, q1.kp⟩ W7 bs w.heap.size id 3 HS7.out.below.size hzb7 HN7.out HOB.out.seq (by have := HFU.out; show b.seq < _; omega) HOB.out.floor HOB.out.keep (by have := HID.out; unfold maxLen; omega) (by decide) (by have := HOB.out.trail; show (b.trail.length + 1) * 32 ≤ _; omega)
      have HCh := Lib.hid hCh
      clear hCh
      have c0 := HS7.out.box.cell 0 rfl
      have c1 := HS7.out.box.cell 1 rfl
      have c2 := HS7.out.box.cell 2 rfl
      have c3 := HS7.out.box.cell 3 rfl
      have c4 := HS7.out.box.cell 4 rfl
      dsimp only at c0 c1 c2 c3 c4
      go_wp2_with (go_at_call 66; refine HCh.out.mono ?_; rintro e w8 ⟨q8, rfl, hN8, hb8⟩; (have HS8 := Lib.hid (HS7.out.go hb8)); (have z0 := HS8.out.zero.cell 0 rfl); (have z1 := HS8.out.zero.cell 1 rfl); (have z2 := HS8.out.zero.cell 2 rfl); (have z3 := HS8.out.zero.cell 3 rfl); (have z4 := HS8.out.zero.cell 4 rfl); (have y0 := HS8.out.zero.frozen 0); (have y1 := HS8.out.zero.frozen 1); (have y2 := HS8.out.zero.frozen 2); (have y3 := HS8.out.zero.frozen 3); (have y4 := HS8.out.zero.frozen 4); dsimp only [RB.zero] at z0 z1 z2 z3 z4)
      have hz8 := HS8.out.size
      have hg9 := grownBy_setB w8 (w.heap.size + 1) q8
      have hne9 := hN8.ne (g := w.heap.size + 1) (by omega)
      refine bodyPost_ret (v := .tuple #[RB.val q8, .int .i64 0]) (by simp [results, Try.results23, go_sem, z0, z1, z2, z3, z4]) rfl ?_
      exact ⟨q8, by rw [HX.out], by rw [HX.out]; exact ((hN8.kept hg9 hne9.1 hne9.2 HS8.out.below.size (by omega)).mono (by omega) (Nat.le_refl _)), HS8.out.below.grown hg9 HS8.out.below.size (fun a e => by cases e; omega)⟩
end Go.Proofs.Ythgkgjcnmahacaa
end

section
/- The plain law of order: acts of unlike ids lead to the same objects in either order. -/
set_option linter.unusedSimpArgs false
set_option linter.unusedVariables false
namespace Go.Proofs.Ythgkgjcnmahacaa
open Go.RowKit Go.OpenShut

abbrev Obs := List (ByteArray × JV)
def Rise (os : Obs) : Prop := os.Pairwise (fun p q => cmpN p.1 q.1 < 0)
theorem rise_iff {os : Obs} : Rising os ↔ Rise os := by
  unfold Rise
  rw [List.pairwise_iff_getElem]
  constructor
  · intro h i j hi hj hij
    exact h i j _ _ hij (List.getElem?_eq_getElem hi) (List.getElem?_eq_getElem hj)
  · intro h i j p q hij hp hq
    obtain ⟨hi, rfl⟩ := List.getElem?_eq_some_iff.1 hp
    obtain ⟨hj, rfl⟩ := List.getElem?_eq_some_iff.1 hq
    exact h i j hi hj hij
theorem cmp_ne {a b : ByteArray} (h : cmpN a b < 0) : a ≠ b := fun e => by subst e; rw [cmpN_self] at h; omega
theorem cmp_tri (a b : ByteArray) : cmpN a b < 0 ∨ a = b ∨ cmpN b a < 0 := by
  have h := cmpN_neg a b
  by_cases h1 : cmpN a b < 0
  · exact .inl h1
  · by_cases h2 : cmpN a b = 0
    · exact .inr (.inl (cmpN_eq h2))
    · exact .inr (.inr (by omega))
theorem cmp_trans {a b c : ByteArray} (h1 : cmpN a b < 0) (h2 : cmpN b c < 0) : cmpN a c < 0 := cmpN_lt_trans h1 (by have := cmpN_neg b c; omega)
theorem lowN_cons (p : ByteArray × JV) (os : Obs) (id : ByteArray) : lowN (p :: os) id = if cmpN p.1 id < 0 then lowN os id + 1 else 0 := by
  unfold lowN
  rw [List.takeWhile_cons]
  by_cases h : cmpN p.1 id < 0 <;> simp [h]
/-- What is under an id. -/
def look (os : Obs) (id : ByteArray) : Option JV := if isAt os id = true then some (oldV os id) else none
theorem isAt_cons (p : ByteArray × JV) (os : Obs) (id : ByteArray) : isAt (p :: os) id = if cmpN p.1 id < 0 then isAt os id else decide (p.1 = id) := by
  unfold isAt
  rw [lowN_cons]
  by_cases h : cmpN p.1 id < 0 <;> simp [h]
theorem oldV_cons (p : ByteArray × JV) (os : Obs) (id : ByteArray) : oldV (p :: os) id = if cmpN p.1 id < 0 then oldV os id else p.2 := by
  unfold oldV
  rw [lowN_cons]
  by_cases h : cmpN p.1 id < 0 <;> simp [h]
theorem look_nil (id : ByteArray) : look [] id = none := rfl
theorem look_cons (p : ByteArray × JV) (os : Obs) (id : ByteArray) : look (p :: os) id = if cmpN p.1 id < 0 then look os id else if p.1 = id then some p.2 else none := by
  unfold look
  rw [isAt_cons, oldV_cons]
  by_cases h : cmpN p.1 id < 0 <;> simp [h]
theorem look_isSome (os : Obs) (id : ByteArray) : (look os id).isSome = isAt os id := by
  unfold look
  cases isAt os id <;> simp
theorem look_mem : ∀ {os : Obs} (hr : Rise os) (z : ByteArray × JV), z ∈ os ↔ look os z.1 = some z.2
  | [], _, z => by simp [look_nil]
  | p :: os, hr, z => by
    obtain ⟨h1, h2⟩ := List.pairwise_cons.1 hr
    have ih := look_mem h2 z
    rw [look_cons, List.mem_cons]
    by_cases h : cmpN p.1 z.1 < 0
    · rw [if_pos h, ← ih]
      exact ⟨fun e => e.elim (fun e => by subst e; exact absurd rfl (cmp_ne h)) id, .inr⟩
    · rw [if_neg h]
      have hz : z ∉ os := fun hm => h (h1 z hm)
      by_cases e : p.1 = z.1
      · rw [if_pos e]
        refine ⟨fun e' => e'.elim (fun e' => by rw [e']) (fun hm => absurd hm hz), fun e' => .inl ?_⟩
        obtain ⟨a, b⟩ := z
        obtain ⟨c, d⟩ := p
        simp at e e'
        rw [e, e']
      · rw [if_neg e]
        exact ⟨fun e' => e'.elim (fun e' => absurd (by rw [e']) e) (fun hm => absurd hm hz), fun e' => by simp at e'⟩
/-- Two rising lists with the same members are the same. -/
theorem rise_ext : ∀ {l m : Obs}, Rise l → Rise m → (∀ z, z ∈ l ↔ z ∈ m) → l = m
  | [], [], _, _, _ => rfl
  | [], q :: m, _, _, h => by have := (h q).2 (by simp); simp at this
  | p :: l, [], _, _, h => by have := (h p).1 (by simp); simp at this
  | p :: l, q :: m, hl, hm, h => by
    obtain ⟨l1, l2⟩ := List.pairwise_cons.1 hl
    obtain ⟨m1, m2⟩ := List.pairwise_cons.1 hm
    have e : p = q := by
      by_cases e : p = q
      · exact e
      · have a : p ∈ m := (List.mem_cons.1 ((h p).1 (by simp))).resolve_left e
        have b : q ∈ l := (List.mem_cons.1 ((h q).2 (by simp))).resolve_left (Ne.symm e)
        have c := cmp_trans (l1 q b) (m1 p a)
        rw [cmpN_self] at c
        omega
    subst e
    have hne : ∀ z, (z ∈ l → z ≠ p) ∧ (z ∈ m → z ≠ p) := fun z => ⟨fun hz e => by subst e; exact cmp_ne (l1 z hz) rfl, fun hz e => by subst e; exact cmp_ne (m1 z hz) rfl⟩
    rw [rise_ext l2 m2 fun z => ⟨fun hz => (List.mem_cons.1 ((h z).1 (List.mem_cons_of_mem _ hz))).resolve_left ((hne z).1 hz), fun hz => (List.mem_cons.1 ((h z).2 (List.mem_cons_of_mem _ hz))).resolve_left ((hne z).2 hz)⟩]
theorem look_ext {l m : Obs} (hl : Rise l) (hm : Rise m) (h : ∀ id, look l id = look m id) : l = m :=
  rise_ext hl hm fun z => by rw [look_mem hl, look_mem hm, h]

def putL (os : Obs) (id : ByteArray) (v : JV) : Obs := if isAt os id = true then os.set (lowN os id) (id, v) else os.take (lowN os id) ++ (id, v) :: os.drop (lowN os id)
def delL (os : Obs) (id : ByteArray) : Obs := if isAt os id = true then os.take (lowN os id) ++ os.drop (lowN os id + 1) else os
theorem putL_nil (id : ByteArray) (v : JV) : putL [] id v = [(id, v)] := by simp [putL, isAt, lowN]
theorem putL_cons (p : ByteArray × JV) (os : Obs) (id : ByteArray) (v : JV) : putL (p :: os) id v = if cmpN p.1 id < 0 then p :: putL os id v else if p.1 = id then (id, v) :: os else (id, v) :: p :: os := by
  unfold putL
  rw [isAt_cons, lowN_cons]
  by_cases h : cmpN p.1 id < 0
  · simp only [if_pos h]
    by_cases e : isAt os id = true <;> simp [e]
  · simp only [if_neg h]
    by_cases e : p.1 = id <;> simp [e]
theorem delL_nil (id : ByteArray) : delL [] id = [] := by simp [delL]
theorem delL_cons (p : ByteArray × JV) (os : Obs) (id : ByteArray) : delL (p :: os) id = if cmpN p.1 id < 0 then p :: delL os id else if p.1 = id then os else p :: os := by
  unfold delL
  rw [isAt_cons, lowN_cons]
  by_cases h : cmpN p.1 id < 0
  · simp only [if_pos h]
    by_cases e : isAt os id = true <;> simp [e]
  · simp only [if_neg h]
    by_cases e : p.1 = id <;> simp [e]
theorem putL_mem : ∀ {os : Obs} (hr : Rise os) (id : ByteArray) (v : JV) (z : ByteArray × JV), z ∈ putL os id v ↔ z = (id, v) ∨ z ∈ os ∧ z.1 ≠ id
  | [], _, id, v, z => by simp [putL_nil]
  | p :: os, hr, id, v, z => by
    obtain ⟨h1, h2⟩ := List.pairwise_cons.1 hr
    have ih := putL_mem h2 id v z
    rw [putL_cons]
    by_cases h : cmpN p.1 id < 0
    · have hp := cmp_ne h
      simp only [if_pos h, List.mem_cons, ih]
      constructor
      · rintro (rfl | h | h)
        · exact .inr ⟨.inl rfl, hp⟩
        · exact .inl h
        · exact .inr ⟨.inr h.1, h.2⟩
      · rintro (h | ⟨rfl | h, h3⟩)
        · exact .inr (.inl h)
        · exact .inl rfl
        · exact .inr (.inr ⟨h, h3⟩)
    · simp only [if_neg h]
      by_cases e : p.1 = id
      · have hn : ∀ y ∈ os, y.1 ≠ id := fun y hy e2 => cmp_ne (h1 y hy) (by rw [e, e2])
        simp only [if_pos e, List.mem_cons]
        constructor
        · rintro (h | h)
          · exact .inl h
          · exact .inr ⟨.inr h, hn z h⟩
        · rintro (h | ⟨rfl | h, h3⟩)
          · exact .inl h
          · exact absurd e h3
          · exact .inr h
      · have hlt : cmpN id p.1 < 0 := by
          rcases cmp_tri p.1 id with h3 | h3 | h3
          · exact absurd h3 h
          · exact absurd h3 e
          · exact h3
        have hn : ∀ y ∈ os, y.1 ≠ id := fun y hy e2 => cmp_ne (cmp_trans hlt (h1 y hy)) e2.symm
        simp only [if_neg e, List.mem_cons]
        constructor
        · rintro (h | rfl | h)
          · exact .inl h
          · exact .inr ⟨.inl rfl, e⟩
          · exact .inr ⟨.inr h, hn z h⟩
        · rintro (h | ⟨h, _⟩)
          · exact .inl h
          · exact .inr h
theorem putL_rise : ∀ {os : Obs} (hr : Rise os) (id : ByteArray) (v : JV), Rise (putL os id v)
  | [], _, id, v => by rw [putL_nil]; exact List.pairwise_singleton _ _
  | p :: os, hr, id, v => by
    obtain ⟨h1, h2⟩ := List.pairwise_cons.1 hr
    have ih := putL_rise h2 id v
    rw [putL_cons]
    by_cases h : cmpN p.1 id < 0
    · rw [if_pos h]
      refine List.pairwise_cons.2 ⟨fun z hz => ?_, ih⟩
      rcases (putL_mem h2 id v z).1 hz with rfl | ⟨hz, _⟩
      · exact h
      · exact h1 z hz
    · rw [if_neg h]
      by_cases e : p.1 = id
      · rw [if_pos e]
        exact List.pairwise_cons.2 ⟨fun z hz => by have := h1 z hz; rw [e] at this; exact this, h2⟩
      · have hlt : cmpN id p.1 < 0 := by
          rcases cmp_tri p.1 id with h3 | h3 | h3
          · exact absurd h3 h
          · exact absurd h3 e
          · exact h3
        rw [if_neg e]
        refine List.pairwise_cons.2 ⟨fun z hz => ?_, hr⟩
        rcases List.mem_cons.1 hz with rfl | hz
        · exact hlt
        · exact cmp_trans hlt (h1 z hz)
theorem delL_mem : ∀ {os : Obs} (hr : Rise os) (id : ByteArray) (z : ByteArray × JV), z ∈ delL os id ↔ z ∈ os ∧ z.1 ≠ id
  | [], _, id, z => by simp [delL_nil]
  | p :: os, hr, id, z => by
    obtain ⟨h1, h2⟩ := List.pairwise_cons.1 hr
    have ih := delL_mem h2 id z
    rw [delL_cons]
    by_cases h : cmpN p.1 id < 0
    · have hp := cmp_ne h
      simp only [if_pos h, List.mem_cons, ih]
      constructor
      · rintro (rfl | h)
        · exact ⟨.inl rfl, hp⟩
        · exact ⟨.inr h.1, h.2⟩
      · rintro ⟨rfl | h, h3⟩
        · exact .inl rfl
        · exact .inr ⟨h, h3⟩
    · simp only [if_neg h]
      by_cases e : p.1 = id
      · have hn : ∀ y ∈ os, y.1 ≠ id := fun y hy e2 => cmp_ne (h1 y hy) (by rw [e, e2])
        simp only [if_pos e, List.mem_cons]
        constructor
        · intro h
          exact ⟨.inr h, hn z h⟩
        · rintro ⟨rfl | h, h3⟩
          · exact absurd e h3
          · exact h
      · have hlt : cmpN id p.1 < 0 := by
          rcases cmp_tri p.1 id with h3 | h3 | h3
          · exact absurd h3 h
          · exact absurd h3 e
          · exact h3
        have hn : ∀ y ∈ os, y.1 ≠ id := fun y hy e2 => cmp_ne (cmp_trans hlt (h1 y hy)) e2.symm
        simp only [if_neg e, List.mem_cons]
        constructor
        · rintro (rfl | h)
          · exact ⟨.inl rfl, e⟩
          · exact ⟨.inr h, hn z h⟩
        · rintro ⟨h, _⟩
          exact h
theorem delL_sub : ∀ (os : Obs) (id : ByteArray), (delL os id).Sublist os
  | [], id => by rw [delL_nil]; exact List.Sublist.refl _
  | p :: os, id => by
    rw [delL_cons]
    by_cases h : cmpN p.1 id < 0
    · rw [if_pos h]
      exact (delL_sub os id).cons_cons p
    · rw [if_neg h]
      by_cases e : p.1 = id
      · rw [if_pos e]
        exact List.sublist_cons_self _ _
      · rw [if_neg e]
        exact List.Sublist.refl _
theorem delL_rise {os : Obs} (hr : Rise os) (id : ByteArray) : Rise (delL os id) := hr.sublist (delL_sub os id)
/-- What is looked up after an act. -/
theorem look_of {os ns : Obs} (hr : Rise os) (hn : Rise ns) {id : ByteArray} (h : ∀ v, (id, v) ∈ ns ↔ (id, v) ∈ os) : look ns id = look os id := by
  cases e : look os id with
  | some v => exact (look_mem hn (id, v)).1 ((h v).2 ((look_mem hr (id, v)).2 e))
  | none =>
    cases e2 : look ns id with
    | none => rfl
    | some v =>
      have := (look_mem hr (id, v)).1 ((h v).1 ((look_mem hn (id, v)).2 e2))
      rw [e] at this
      simp at this
theorem look_put {os : Obs} (hr : Rise os) (id : ByteArray) (v : JV) : look (putL os id v) id = some v := (look_mem (putL_rise hr id v) (id, v)).1 ((putL_mem hr id v _).2 (.inl rfl))
theorem look_put_ne {os : Obs} (hr : Rise os) {id k : ByteArray} (v : JV) (hk : k ≠ id) : look (putL os id v) k = look os k :=
  look_of hr (putL_rise hr id v) fun u => by
    rw [putL_mem hr]
    exact ⟨fun h => h.elim (fun e => absurd (congrArg Prod.fst e) hk) (·.1), fun h => .inr ⟨h, hk⟩⟩
theorem look_del {os : Obs} (hr : Rise os) (id : ByteArray) : look (delL os id) id = none := by
  cases e : look (delL os id) id with
  | none => rfl
  | some v =>
    have := (delL_mem hr id (id, v)).1 ((look_mem (delL_rise hr id) (id, v)).2 e)
    exact absurd rfl this.2
theorem look_del_ne {os : Obs} (hr : Rise os) {id k : ByteArray} (hk : k ≠ id) : look (delL os id) k = look os k :=
  look_of hr (delL_rise hr id) fun u => by
    rw [delL_mem hr]
    exact ⟨(·.1), fun h => ⟨h, hk⟩⟩
end Go.Proofs.Ythgkgjcnmahacaa
end

section
/- An act, if it goes: what it makes of a box; acts of unlike ids in either order. -/
set_option linter.unusedSimpArgs false
set_option linter.unusedVariables false
namespace Go.Proofs.Ythgkgjcnmahacaa
open Go.RowKit Go.OpenShut

/-- What an act answers. -/
noncomputable def actB (b : BoxD) (k : Int) (id : ByteArray) (v : JV) : BoxD × Int := if k = 1 then putB b id v else if k = 2 then dropB b id else (b, 81)
noncomputable def doesB (b : BoxD) (k : Int) (id : ByteArray) (v : JV) : BoxD := if (actB b k id v).2 = 0 then (actB b k id v).1 else b
open Classical in
noncomputable def cnt (k : Int) (v : JV) (o : Option JV) : Int :=
  if k = 1 then (match o with | some u => if SameT u v then 0 else 1 | none => 1) else if k = 2 then (match o with | some _ => 1 | none => 0) else 0
open Classical in
noncomputable def newLook (k : Int) (v : JV) (o : Option JV) : Option JV :=
  if k = 1 then (match o with | some u => if SameT u v then some u else some v | none => some v) else if k = 2 then none else o
structure DoesTo (b d : BoxD) (k : Int) (id : ByteArray) (v : JV) : Prop where
  rise : Rise d.objs
  seq : d.seq = b.seq + cnt k v (look b.objs id)
  at_ : look d.objs id = newLook k v (look b.objs id)
  other : ∀ j, j ≠ id → look d.objs j = look b.objs j
  told : ∀ j, j ≠ id → toldB d.trail j = true → toldB b.trail j = true
theorem told_chg {b : BoxD} {os : Obs} {id : ByteArray} {what : Int} : ∀ j, j ≠ id → toldB (chgB b os id what).trail j = true → toldB b.trail j = true := by
  intro j hj h
  unfold toldB chgB addL at h
  obtain ⟨e, he, hd⟩ := List.any_eq_true.1 h
  have hm := List.mem_of_mem_drop he
  simp at hd
  rcases List.mem_append.1 hm with h1 | h1
  · exact List.any_eq_true.2 ⟨e, h1, by simpa using hd⟩
  · simp at h1
    subst h1
    exact absurd hd.symm hj
theorem chg_to {b : BoxD} {os : Obs} {k : Int} {id : ByteArray} {v : JV} {what : Int} (hr : Rise os) (h1 : cnt k v (look b.objs id) = 1) (h2 : look os id = newLook k v (look b.objs id)) (h3 : ∀ j, j ≠ id → look os j = look b.objs j) :
    DoesTo b (chgB b os id what) k id v := ⟨hr, by rw [h1]; rfl, h2, h3, told_chg⟩
theorem same_to {b : BoxD} {k : Int} {id : ByteArray} {v : JV} (hr : Rise b.objs) (h1 : cnt k v (look b.objs id) = 0) (h2 : look b.objs id = newLook k v (look b.objs id)) : DoesTo b b k id v :=
  ⟨hr, by rw [h1]; omega, h2, fun _ _ => rfl, fun _ _ h => h⟩
theorem doesB_to {b : BoxD} {k : Int} {id : ByteArray} {v : JV} (hr : Rise b.objs) (hs : b.seq < 9007199254740991) (hg : isAt b.objs id = true ∨ toldB b.trail id = false) : DoesTo b (doesB b k id v) k id v := by
  have hns : ¬ 9007199254740991 ≤ b.seq := by omega
  unfold doesB actB
  by_cases k1 : k = 1
  · subst k1
    rw [if_pos rfl]
    unfold putB
    by_cases ha : isAt b.objs id = true
    · have hl : look b.objs id = some (oldV b.objs id) := by unfold look; rw [if_pos ha]
      rw [if_pos ha]
      by_cases hsm : SameT (oldV b.objs id) v
      · rw [if_pos hsm]
        simp only [if_pos]
        refine same_to hr ?_ ?_ <;> rw [hl] <;> simp [cnt, newLook, hsm]
      · rw [if_neg hsm, if_neg hns]
        simp only [if_pos]
        have e : b.objs.set (lowN b.objs id) (id, v) = putL b.objs id v := by unfold putL; rw [if_pos ha]
        rw [e]
        refine chg_to (putL_rise hr id v) ?_ ?_ (fun j hj => look_put_ne hr v hj)
        · rw [hl]
          simp [cnt, hsm]
        · rw [hl, look_put hr]
          simp [newLook, hsm]
    · have hl : look b.objs id = none := by unfold look; rw [if_neg ha]
      have ht : ¬ toldB b.trail id = true := by rcases hg with h | h <;> simp_all
      rw [if_neg ha, if_neg ht, if_neg hns]
      simp only [if_pos]
      have e : b.objs.take (lowN b.objs id) ++ (id, v) :: b.objs.drop (lowN b.objs id) = putL b.objs id v := by unfold putL; rw [if_neg ha]
      rw [e]
      refine chg_to (putL_rise hr id v) ?_ ?_ (fun j hj => look_put_ne hr v hj)
      · rw [hl]
        simp [cnt]
      · rw [hl, look_put hr]
        simp [newLook]
  · rw [if_neg k1]
    by_cases k2 : k = 2
    · subst k2
      rw [if_pos rfl]
      unfold dropB
      by_cases ha : isAt b.objs id = true
      · have hl : look b.objs id = some (oldV b.objs id) := by unfold look; rw [if_pos ha]
        rw [if_neg (show ¬ isAt b.objs id = false by rw [ha]; decide), if_neg hns]
        simp only [if_pos]
        have e : b.objs.take (lowN b.objs id) ++ b.objs.drop (lowN b.objs id + 1) = delL b.objs id := by unfold delL; rw [if_pos ha]
        rw [e]
        refine chg_to (delL_rise hr id) ?_ ?_ (fun j hj => look_del_ne hr hj)
        · rw [hl]
          simp [cnt]
        · rw [look_del hr]
          simp [newLook]
      · have hl : look b.objs id = none := by unfold look; rw [if_neg ha]
        rw [if_pos (show isAt b.objs id = false by simpa using ha)]
        simp only [if_neg (show ¬ (81 : Int) = 0 by decide)]
        refine same_to hr ?_ ?_ <;> rw [hl] <;> simp [cnt, newLook]
    · rw [if_neg k2]
      simp only [if_neg (show ¬ (81 : Int) = 0 by decide)]
      refine same_to hr ?_ ?_ <;> simp [cnt, newLook, k1, k2]
theorem cnt_le (k : Int) (v : JV) (o : Option JV) : cnt k v o ≤ 1 := by
  unfold cnt
  split
  · cases o with
    | none => show (1 : Int) ≤ 1; decide
    | some u => by_cases h : SameT u v <;> simp [h]
  · split
    · cases o with
      | none => show (0 : Int) ≤ 1; decide
      | some u => show (1 : Int) ≤ 1; decide
    · decide
/-- What is there or not yet told of. -/
def NotGone (b : BoxD) (id : ByteArray) : Prop := isAt b.objs id = true ∨ toldB b.trail id = false
theorem DoesTo.notGone {b d : BoxD} {k : Int} {id j : ByteArray} {v : JV} (h : DoesTo b d k id v) (hj : j ≠ id) (hg : NotGone b j) : NotGone d j := by
  rcases hg with hg | hg
  · left
    rw [← look_isSome, h.other j hj, look_isSome, hg]
  · right
    cases e : toldB d.trail j with
    | false => rfl
    | true => rw [h.told j hj e] at hg; exact absurd hg (by decide)
theorem order_law {b : BoxD} {k1 k2 : Int} {i1 i2 : ByteArray} {v1 v2 : JV} (hr : Rise b.objs) (hs : b.seq ≤ 1125899906842624) (hne : i1 ≠ i2) (h1 : NotGone b i1) (h2 : NotGone b i2) :
    (doesB (doesB b k1 i1 v1) k2 i2 v2).seq = (doesB (doesB b k2 i2 v2) k1 i1 v1).seq ∧ (doesB (doesB b k1 i1 v1) k2 i2 v2).objs = (doesB (doesB b k2 i2 v2) k1 i1 v1).objs := by
  have a1 := doesB_to (k := k1) (v := v1) hr (by omega) h1
  have a2 := doesB_to (k := k2) (v := v2) hr (by omega) h2
  have c1 := cnt_le k1 v1 (look b.objs i1)
  have c2 := cnt_le k2 v2 (look b.objs i2)
  have s1 := a1.seq
  have s2 := a2.seq
  have b2 := doesB_to (k := k2) (v := v2) a1.rise (by omega) (a1.notGone (Ne.symm hne) h2)
  have b1 := doesB_to (k := k1) (v := v1) a2.rise (by omega) (a2.notGone hne h1)
  have t1 := b1.seq
  have t2 := b2.seq
  rw [a2.other i1 hne] at t1
  rw [a1.other i2 (Ne.symm hne)] at t2
  refine ⟨by omega, look_ext b2.rise b1.rise fun j => ?_⟩
  by_cases e1 : j = i1
  · subst e1
    rw [b2.other j hne, a1.at_, b1.at_, a2.other j hne]
  · by_cases e2 : j = i2
    · subst e2
      rw [b2.at_, a1.other j e1, b1.other j e1, a2.at_]
    · rw [b2.other j e2, a1.other j e1, b1.other j e1, a2.other j e2]
theorem addF_wf {l : List En} {floor keep : Int} {e : En} (hl : ∀ x ∈ l, x.ok) (he : e.ok) (hf : (Lit.int .i64 floor).wf = true) : (Lit.int .i64 (addF l floor keep e)).wf = true := by
  unfold addF
  split
  · exact hf
  · cases hx : (l ++ [e])[addGone l.length keep - 1]? with
    | none => decide
    | some x =>
      have hm := List.mem_of_getElem? hx
      rcases List.mem_append.1 hm with h | h
      · exact (hl x h).1
      · simp at h
        subst h
        exact he.1
theorem chgB_ok {b : BoxD} {os : Obs} {id : ByteArray} {what : Int} (ob : b.Ok) (hl : ∀ x ∈ b.trail, x.ok) (hs : b.seq < 9007199254740991) (ht : b.trail.length ≤ 1000) (hid : id.size ≤ 140737488351232) (hw : (Lit.int .i64 what).wf = true) (h1 : os.length ≤ 1466015503658)
    (h2 : ∀ p ∈ os, p.1.size ≤ 140737488351232 ∧ p.2.Ok) : (chgB b os id what).Ok := by
  have hsw := wf_bounds ob.seq
  have hq : (Lit.int .i64 (b.seq + 1)).wf = true := wf_of (by omega) (by omega)
  have he : En.ok ⟨b.seq + 1, id, what⟩ := ⟨hq, (show id.size ≤ maxLen by unfold maxLen; omega), hw⟩
  refine ⟨h1, h2, ?_, hq, addF_wf hl he ob.floor, ob.keep⟩
  show ((b.trail ++ [_]).drop _).length ≤ _
  rw [List.length_drop, List.length_append]
  simp
  omega
theorem chgB_trail (b : BoxD) (os : Obs) (id : ByteArray) (what : Int) : (chgB b os id what).trail.length ≤ b.trail.length + 1 := by
  show ((b.trail ++ [_]).drop _).length ≤ _
  rw [List.length_drop, List.length_append]
  simp
theorem doesB_ok {b : BoxD} {k : Int} {id : ByteArray} {v : JV} (ob : b.Ok) (hl : ∀ x ∈ b.trail, x.ok) (ho : b.objs.length ≤ 1000) (ht : b.trail.length ≤ 1000) (hid : id.size ≤ 140737488351232) (ov : v.Ok) :
    (doesB b k id v).Ok ∧ (doesB b k id v).objs.length ≤ b.objs.length + 1 ∧ (doesB b k id v).trail.length ≤ b.trail.length + 1 := by
  have base : b.Ok ∧ b.objs.length ≤ b.objs.length + 1 ∧ b.trail.length ≤ b.trail.length + 1 := ⟨ob, by omega, by omega⟩
  have hlow := lowN_le b.objs id
  unfold doesB actB
  by_cases k1 : k = 1
  · subst k1
    rw [if_pos rfl]
    unfold putB
    by_cases ha : isAt b.objs id = true
    · rw [if_pos ha]
      by_cases hsm : SameT (oldV b.objs id) v
      · rw [if_pos hsm]
        simp only [if_pos]
        exact base
      · rw [if_neg hsm]
        by_cases hns : 9007199254740991 ≤ b.seq
        · rw [if_pos hns]
          simp only [if_neg (show ¬ (180 : Int) = 0 by decide)]
          exact base
        · rw [if_neg hns]
          simp only [if_pos]
          refine ⟨chgB_ok ob hl (by omega) ht hid (by decide) (by simp; omega) (fun p hp => ?_), ?_, chgB_trail _ _ _ _⟩
          · rcases List.mem_or_eq_of_mem_set hp with h | rfl
            · exact ob.each p h
            · exact ⟨hid, ov⟩
          · show (b.objs.set _ _).length ≤ _
            simp
    · rw [if_neg ha]
      by_cases ht2 : toldB b.trail id = true
      · rw [if_pos ht2]
        simp only [if_neg (show ¬ (181 : Int) = 0 by decide)]
        exact base
      · rw [if_neg ht2]
        by_cases hns : 9007199254740991 ≤ b.seq
        · rw [if_pos hns]
          simp only [if_neg (show ¬ (180 : Int) = 0 by decide)]
          exact base
        · rw [if_neg hns]
          simp only [if_pos]
          refine ⟨chgB_ok ob hl (by omega) ht hid (by decide) (by simp; omega) (fun p hp => ?_), ?_, chgB_trail _ _ _ _⟩
          · rcases List.mem_append.1 hp with h | h
            · exact ob.each p (List.mem_of_mem_take h)
            · rcases List.mem_cons.1 h with rfl | h
              · exact ⟨hid, ov⟩
              · exact ob.each p (List.mem_of_mem_drop h)
          · show (b.objs.take _ ++ _ :: b.objs.drop _).length ≤ _
            simp
            omega
  · rw [if_neg k1]
    by_cases k2 : k = 2
    · subst k2
      rw [if_pos rfl]
      unfold dropB
      by_cases ha : isAt b.objs id = false
      · rw [if_pos ha]
        simp only [if_neg (show ¬ (81 : Int) = 0 by decide)]
        exact base
      · rw [if_neg ha]
        by_cases hns : 9007199254740991 ≤ b.seq
        · rw [if_pos hns]
          simp only [if_neg (show ¬ (180 : Int) = 0 by decide)]
          exact base
        · rw [if_neg hns]
          simp only [if_pos]
          refine ⟨chgB_ok ob hl (by omega) ht hid (by decide) (by simp; omega) (fun p hp => ?_), ?_, chgB_trail _ _ _ _⟩
          · rcases List.mem_append.1 hp with h | h
            · exact ob.each p (List.mem_of_mem_take h)
            · exact ob.each p (List.mem_of_mem_drop h)
          · show (b.objs.take _ ++ b.objs.drop _).length ≤ _
            simp
            omega
    · rw [if_neg k2]
      simp only [if_neg (show ¬ (81 : Int) = 0 by decide)]
      exact base
theorem doesB_trail {b : BoxD} {k : Int} {id : ByteArray} {v : JV} (ob : b.Ok) (hl : ∀ x ∈ b.trail, x.ok) (hid : id.size ≤ 140737488351232) : ∀ x ∈ (doesB b k id v).trail, x.ok := by
  have hsw := wf_bounds ob.seq
  have key : ∀ (os : Obs) (what : Int), (Lit.int .i64 what).wf = true → ¬ 9007199254740991 ≤ b.seq → ∀ x ∈ (chgB b os id what).trail, x.ok := fun os what hw hs =>
    addL_oks hl ⟨wf_of (by show -9223372036854775808 ≤ b.seq + 1; omega) (by show b.seq + 1 ≤ _; omega), (show id.size ≤ maxLen by unfold maxLen; omega), hw⟩
  have act : (actB b k id v).2 = 0 → ∀ x ∈ (actB b k id v).1.trail, x.ok := by
    unfold actB putB dropB
    intro h
    by_cases k1 : k = 1
    · simp only [if_pos k1] at h ⊢
      by_cases ha : isAt b.objs id = true
      · simp only [if_pos ha] at h ⊢
        by_cases hsm : SameT (oldV b.objs id) v
        · simp only [if_pos hsm]; exact hl
        · simp only [if_neg hsm] at h ⊢
          by_cases hs : 9007199254740991 ≤ b.seq
          · simp only [if_pos hs] at h; exact absurd h (by decide)
          · simp only [if_neg hs]; exact key _ _ (by decide) hs
      · simp only [if_neg ha] at h ⊢
        by_cases ht : toldB b.trail id = true
        · simp only [if_pos ht] at h; exact absurd h (by decide)
        · simp only [if_neg ht] at h ⊢
          by_cases hs : 9007199254740991 ≤ b.seq
          · simp only [if_pos hs] at h; exact absurd h (by decide)
          · simp only [if_neg hs]; exact key _ _ (by decide) hs
    · simp only [if_neg k1] at h ⊢
      by_cases k2 : k = 2
      · simp only [if_pos k2] at h ⊢
        by_cases ha : isAt b.objs id = false
        · simp only [if_pos ha] at h; exact absurd h (by decide)
        · simp only [if_neg ha] at h ⊢
          by_cases hs : 9007199254740991 ≤ b.seq
          · simp only [if_pos hs] at h; exact absurd h (by decide)
          · simp only [if_neg hs]; exact key _ _ (by decide) hs
      · simp only [if_neg k2] at h; exact absurd h (by decide)
  unfold doesB
  by_cases h : (actB b k id v).2 = 0
  · rw [if_pos h]; exact act h
  · rw [if_neg h]; exact hl
end Go.Proofs.Ythgkgjcnmahacaa
end
