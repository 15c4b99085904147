import Derived.Test.YthgkgjcnmahacaaSc14
import Derived.Test.YthgkgjcnmahacaaSc10
import Derived.Test.YthgkgjcnmahacaaSc03
import Derived.WalkLawsBesides
import Derived.BigQuiet
import Derived.Test.YthgkgjcnmahacaaSc09
import Derived.RangeFuncNested
import Derived.RangeFuncBound
import Derived.RangeFuncCalls
import Derived.RangeFuncLeaves
import Derived.Shelf.Abstract
import Derived.OwnWalkIn
import Derived.TacticsInMore
import Derived.LoopNIn
import Derived.LoopIn
section
/- The plain law of order: acts of unlike ids lead to the same objects in either order. -/
set_option linter.unusedSimpArgs false
set_option linter.unusedVariables false
namespace Go.Proofs.Ythgkgjcnmahacaa
open Go.RowKit Go.OpenShut

abbrev Obs := List (ByteArray × JV)
def Rise (os : Obs) : Prop := os.Pairwise (fun p q => cmpN p.1 q.1 < 0)
theorem rise_iff {os : Obs} : Rising os ↔ Rise os := by
  unfold Rise
  rw [List.pairwise_iff_getElem]
  constructor
  · intro h i j hi hj hij
    exact h i j _ _ hij (List.getElem?_eq_getElem hi) (List.getElem?_eq_getElem hj)
  · intro h i j p q hij hp hq
    obtain ⟨hi, rfl⟩ := List.getElem?_eq_some_iff.1 hp
    obtain ⟨hj, rfl⟩ := List.getElem?_eq_some_iff.1 hq
    exact h i j hi hj hij
theorem cmp_ne {a b : ByteArray} (h : cmpN a b < 0) : a ≠ b := fun e => by subst e; rw [cmpN_self] at h; omega
theorem cmp_tri (a b : ByteArray) : cmpN a b < 0 ∨ a = b ∨ cmpN b a < 0 := by
  have h := cmpN_neg a b
  by_cases h1 : cmpN a b < 0
  · exact .inl h1
  · by_cases h2 : cmpN a b = 0
    · exact .inr (.inl (cmpN_eq h2))
    · exact .inr (.inr (by omega))
theorem cmp_trans {a b c : ByteArray} (h1 : cmpN a b < 0) (h2 : cmpN b c < 0) : cmpN a c < 0 := cmpN_lt_trans h1 (by have := cmpN_neg b c; omega)
theorem lowN_cons (p : ByteArray × JV) (os : Obs) (id : ByteArray) : lowN (p :: os) id = if cmpN p.1 id < 0 then lowN os id + 1 else 0 := by
  unfold lowN
  rw [List.takeWhile_cons]
  by_cases h : cmpN p.1 id < 0 <;> simp [h]
/-- What is under an id. -/
def look (os : Obs) (id : ByteArray) : Option JV := if isAt os id = true then some (oldV os id) else none
theorem isAt_cons (p : ByteArray × JV) (os : Obs) (id : ByteArray) : isAt (p :: os) id = if cmpN p.1 id < 0 then isAt os id else decide (p.1 = id) := by
  unfold isAt
  rw [lowN_cons]
  by_cases h : cmpN p.1 id < 0 <;> simp [h]
theorem oldV_cons (p : ByteArray × JV) (os : Obs) (id : ByteArray) : oldV (p :: os) id = if cmpN p.1 id < 0 then oldV os id else p.2 := by
  unfold oldV
  rw [lowN_cons]
  by_cases h : cmpN p.1 id < 0 <;> simp [h]
theorem look_nil (id : ByteArray) : look [] id = none := rfl
theorem look_cons (p : ByteArray × JV) (os : Obs) (id : ByteArray) : look (p :: os) id = if cmpN p.1 id < 0 then look os id else if p.1 = id then some p.2 else none := by
  unfold look
  rw [isAt_cons, oldV_cons]
  by_cases h : cmpN p.1 id < 0 <;> simp [h]
theorem look_isSome (os : Obs) (id : ByteArray) : (look os id).isSome = isAt os id := by
  unfold look
  cases isAt os id <;> simp
theorem look_mem : ∀ {os : Obs} (hr : Rise os) (z : ByteArray × JV), z ∈ os ↔ look os z.1 = some z.2
  | [], _, z => by simp [look_nil]
  | p :: os, hr, z => by
    obtain ⟨h1, h2⟩ := List.pairwise_cons.1 hr
    have ih := look_mem h2 z
    rw [look_cons, List.mem_cons]
    by_cases h : cmpN p.1 z.1 < 0
    · rw [if_pos h, ← ih]
      exact ⟨fun e => e.elim (fun e => by subst e; exact absurd rfl (cmp_ne h)) id, .inr⟩
    · rw [if_neg h]
      have hz : z ∉ os := fun hm => h (h1 z hm)
      by_cases e : p.1 = z.1
      · rw [if_pos e]
        refine ⟨fun e' => e'.elim (fun e' => by rw [e']) (fun hm => absurd hm hz), fun e' => .inl ?_⟩
        obtain ⟨a, b⟩ := z
        obtain ⟨c, d⟩ := p
        simp at e e'
        rw [e, e']
      · rw [if_neg e]
        exact ⟨fun e' => e'.elim (fun e' => absurd (by rw [e']) e) (fun hm => absurd hm hz), fun e' => by simp at e'⟩
/-- Two rising lists with the same members are the same. -/
theorem rise_ext : ∀ {l m : Obs}, Rise l → Rise m → (∀ z, z ∈ l ↔ z ∈ m) → l = m
  | [], [], _, _, _ => rfl
  | [], q :: m, _, _, h => by have := (h q).2 (by simp); simp at this
  | p :: l, [], _, _, h => by have := (h p).1 (by simp); simp at this
  | p :: l, q :: m, hl, hm, h => by
    obtain ⟨l1, l2⟩ := List.pairwise_cons.1 hl
    obtain ⟨m1, m2⟩ := List.pairwise_cons.1 hm
    have e : p = q := by
      by_cases e : p = q
      · exact e
      · have a : p ∈ m := (List.mem_cons.1 ((h p).1 (by simp))).resolve_left e
        have b : q ∈ l := (List.mem_cons.1 ((h q).2 (by simp))).resolve_left (Ne.symm e)
        have c := cmp_trans (l1 q b) (m1 p a)
        rw [cmpN_self] at c
        omega
    subst e
    have hne : ∀ z, (z ∈ l → z ≠ p) ∧ (z ∈ m → z ≠ p) := fun z => ⟨fun hz e => by subst e; exact cmp_ne (l1 z hz) rfl, fun hz e => by subst e; exact cmp_ne (m1 z hz) rfl⟩
    rw [rise_ext l2 m2 fun z => ⟨fun hz => (List.mem_cons.1 ((h z).1 (List.mem_cons_of_mem _ hz))).resolve_left ((hne z).1 hz), fun hz => (List.mem_cons.1 ((h z).2 (List.mem_cons_of_mem _ hz))).resolve_left ((hne z).2 hz)⟩]
theorem look_ext {l m : Obs} (hl : Rise l) (hm : Rise m) (h : ∀ id, look l id = look m id) : l = m :=
  rise_ext hl hm fun z => by rw [look_mem hl, look_mem hm, h]

def putL (os : Obs) (id : ByteArray) (v : JV) : Obs := if isAt os id = true then os.set (lowN os id) (id, v) else os.take (lowN os id) ++ (id, v) :: os.drop (lowN os id)
def delL (os : Obs) (id : ByteArray) : Obs := if isAt os id = true then os.take (lowN os id) ++ os.drop (lowN os id + 1) else os
theorem putL_nil (id : ByteArray) (v : JV) : putL [] id v = [(id, v)] := by simp [putL, isAt, lowN]
theorem putL_cons (p : ByteArray × JV) (os : Obs) (id : ByteArray) (v : JV) : putL (p :: os) id v = if cmpN p.1 id < 0 then p :: putL os id v else if p.1 = id then (id, v) :: os else (id, v) :: p :: os := by
  unfold putL
  rw [isAt_cons, lowN_cons]
  by_cases h : cmpN p.1 id < 0
  · simp only [if_pos h]
    by_cases e : isAt os id = true <;> simp [e]
  · simp only [if_neg h]
    by_cases e : p.1 = id <;> simp [e]
theorem delL_nil (id : ByteArray) : delL [] id = [] := by simp [delL]
theorem delL_cons (p : ByteArray × JV) (os : Obs) (id : ByteArray) : delL (p :: os) id = if cmpN p.1 id < 0 then p :: delL os id else if p.1 = id then os else p :: os := by
  unfold delL
  rw [isAt_cons, lowN_cons]
  by_cases h : cmpN p.1 id < 0
  · simp only [if_pos h]
    by_cases e : isAt os id = true <;> simp [e]
  · simp only [if_neg h]
    by_cases e : p.1 = id <;> simp [e]
theorem putL_mem : ∀ {os : Obs} (hr : Rise os) (id : ByteArray) (v : JV) (z : ByteArray × JV), z ∈ putL os id v ↔ z = (id, v) ∨ z ∈ os ∧ z.1 ≠ id
  | [], _, id, v, z => by simp [putL_nil]
  | p :: os, hr, id, v, z => by
    obtain ⟨h1, h2⟩ := List.pairwise_cons.1 hr
    have ih := putL_mem h2 id v z
    rw [putL_cons]
    by_cases h : cmpN p.1 id < 0
    · have hp := cmp_ne h
      simp only [if_pos h, List.mem_cons, ih]
      constructor
      · rintro (rfl | h | h)
        · exact .inr ⟨.inl rfl, hp⟩
        · exact .inl h
        · exact .inr ⟨.inr h.1, h.2⟩
      · rintro (h | ⟨rfl | h, h3⟩)
        · exact .inr (.inl h)
        · exact .inl rfl
        · exact .inr (.inr ⟨h, h3⟩)
    · simp only [if_neg h]
      by_cases e : p.1 = id
      · have hn : ∀ y ∈ os, y.1 ≠ id := fun y hy e2 => cmp_ne (h1 y hy) (by rw [e, e2])
        simp only [if_pos e, List.mem_cons]
        constructor
        · rintro (h | h)
          · exact .inl h
          · exact .inr ⟨.inr h, hn z h⟩
        · rintro (h | ⟨rfl | h, h3⟩)
          · exact .inl h
          · exact absurd e h3
          · exact .inr h
      · have hlt : cmpN id p.1 < 0 := by
          rcases cmp_tri p.1 id with h3 | h3 | h3
          · exact absurd h3 h
          · exact absurd h3 e
          · exact h3
        have hn : ∀ y ∈ os, y.1 ≠ id := fun y hy e2 => cmp_ne (cmp_trans hlt (h1 y hy)) e2.symm
        simp only [if_neg e, List.mem_cons]
        constructor
        · rintro (h | rfl | h)
          · exact .inl h
          · exact .inr ⟨.inl rfl, e⟩
          · exact .inr ⟨.inr h, hn z h⟩
        · rintro (h | ⟨h, _⟩)
          · exact .inl h
          · exact .inr h
theorem putL_rise : ∀ {os : Obs} (hr : Rise os) (id : ByteArray) (v : JV), Rise (putL os id v)
  | [], _, id, v => by rw [putL_nil]; exact List.pairwise_singleton _ _
  | p :: os, hr, id, v => by
    obtain ⟨h1, h2⟩ := List.pairwise_cons.1 hr
    have ih := putL_rise h2 id v
    rw [putL_cons]
    by_cases h : cmpN p.1 id < 0
    · rw [if_pos h]
      refine List.pairwise_cons.2 ⟨fun z hz => ?_, ih⟩
      rcases (putL_mem h2 id v z).1 hz with rfl | ⟨hz, _⟩
      · exact h
      · exact h1 z hz
    · rw [if_neg h]
      by_cases e : p.1 = id
      · rw [if_pos e]
        exact List.pairwise_cons.2 ⟨fun z hz => by have := h1 z hz; rw [e] at this; exact this, h2⟩
      · have hlt : cmpN id p.1 < 0 := by
          rcases cmp_tri p.1 id with h3 | h3 | h3
          · exact absurd h3 h
          · exact absurd h3 e
          · exact h3
        rw [if_neg e]
        refine List.pairwise_cons.2 ⟨fun z hz => ?_, hr⟩
        rcases List.mem_cons.1 hz with rfl | hz
        · exact hlt
        · exact cmp_trans hlt (h1 z hz)
theorem delL_mem : ∀ {os : Obs} (hr : Rise os) (id : ByteArray) (z : ByteArray × JV), z ∈ delL os id ↔ z ∈ os ∧ z.1 ≠ id
  | [], _, id, z => by simp [delL_nil]
  | p :: os, hr, id, z => by
    obtain ⟨h1, h2⟩ := List.pairwise_cons.1 hr
    have ih := delL_mem h2 id z
    rw [delL_cons]
    by_cases h : cmpN p.1 id < 0
    · have hp := cmp_ne h
      simp only [if_pos h, List.mem_cons, ih]
      constructor
      · rintro (rfl | h)
        · exact ⟨.inl rfl, hp⟩
        · exact ⟨.inr h.1, h.2⟩
      · rintro ⟨rfl | h, h3⟩
        · exact .inl rfl
        · exact .inr ⟨h, h3⟩
    · simp only [if_neg h]
      by_cases e : p.1 = id
      · have hn : ∀ y ∈ os, y.1 ≠ id := fun y hy e2 => cmp_ne (h1 y hy) (by rw [e, e2])
        simp only [if_pos e, List.mem_cons]
        constructor
        · intro h
          exact ⟨.inr h, hn z h⟩
        · rintro ⟨rfl | h, h3⟩
          · exact absurd e h3
          · exact h
      · have hlt : cmpN id p.1 < 0 := by
          rcases cmp_tri p.1 id with h3 | h3 | h3
          · exact absurd h3 h
          · exact absurd h3 e
          · exact h3
        have hn : ∀ y ∈ os, y.1 ≠ id := fun y hy e2 => cmp_ne (cmp_trans hlt (h1 y hy)) e2.symm
        simp only [if_neg e, List.mem_cons]
        constructor
        · rintro (rfl | h)
          · exact ⟨.inl rfl, e⟩
          · exact ⟨.inr h, hn z h⟩
        · rintro ⟨h, _⟩
          exact h
theorem delL_sub : ∀ (os : Obs) (id : ByteArray), (delL os id).Sublist os
  | [], id => by rw [delL_nil]; exact List.Sublist.refl _
  | p :: os, id => by
    rw [delL_cons]
    by_cases h : cmpN p.1 id < 0
    · rw [if_pos h]
      exact (delL_sub os id).cons_cons p
    · rw [if_neg h]
      by_cases e : p.1 = id
      · rw [if_pos e]
        exact List.sublist_cons_self _ _
      · rw [if_neg e]
        exact List.Sublist.refl _
theorem delL_rise {os : Obs} (hr : Rise os) (id : ByteArray) : Rise (delL os id) := hr.sublist (delL_sub os id)
/-- What is looked up after an act. -/
theorem look_of {os ns : Obs} (hr : Rise os) (hn : Rise ns) {id : ByteArray} (h : ∀ v, (id, v) ∈ ns ↔ (id, v) ∈ os) : look ns id = look os id := by
  cases e : look os id with
  | some v => exact (look_mem hn (id, v)).1 ((h v).2 ((look_mem hr (id, v)).2 e))
  | none =>
    cases e2 : look ns id with
    | none => rfl
    | some v =>
      have := (look_mem hr (id, v)).1 ((h v).1 ((look_mem hn (id, v)).2 e2))
      rw [e] at this
      simp at this
theorem look_put {os : Obs} (hr : Rise os) (id : ByteArray) (v : JV) : look (putL os id v) id = some v := (look_mem (putL_rise hr id v) (id, v)).1 ((putL_mem hr id v _).2 (.inl rfl))
theorem look_put_ne {os : Obs} (hr : Rise os) {id k : ByteArray} (v : JV) (hk : k ≠ id) : look (putL os id v) k = look os k :=
  look_of hr (putL_rise hr id v) fun u => by
    rw [putL_mem hr]
    exact ⟨fun h => h.elim (fun e => absurd (congrArg Prod.fst e) hk) (·.1), fun h => .inr ⟨h, hk⟩⟩
theorem look_del {os : Obs} (hr : Rise os) (id : ByteArray) : look (delL os id) id = none := by
  cases e : look (delL os id) id with
  | none => rfl
  | some v =>
    have := (delL_mem hr id (id, v)).1 ((look_mem (delL_rise hr id) (id, v)).2 e)
    exact absurd rfl this.2
theorem look_del_ne {os : Obs} (hr : Rise os) {id k : ByteArray} (hk : k ≠ id) : look (delL os id) k = look os k :=
  look_of hr (delL_rise hr id) fun u => by
    rw [delL_mem hr]
    exact ⟨(·.1), fun h => ⟨h, hk⟩⟩
end Go.Proofs.Ythgkgjcnmahacaa
end

section
/- An act, if it goes: what it makes of a box; acts of unlike ids in either order. -/
set_option linter.unusedSimpArgs false
set_option linter.unusedVariables false
namespace Go.Proofs.Ythgkgjcnmahacaa
open Go.RowKit Go.OpenShut

/-- What an act answers. -/
noncomputable def actB (b : BoxD) (k : Int) (id : ByteArray) (v : JV) : BoxD × Int := if k = 1 then putB b id v else if k = 2 then dropB b id else (b, 81)
noncomputable def doesB (b : BoxD) (k : Int) (id : ByteArray) (v : JV) : BoxD := if (actB b k id v).2 = 0 then (actB b k id v).1 else b
open Classical in
noncomputable def cnt (k : Int) (v : JV) (o : Option JV) : Int :=
  if k = 1 then (match o with | some u => if SameT u v then 0 else 1 | none => 1) else if k = 2 then (match o with | some _ => 1 | none => 0) else 0
open Classical in
noncomputable def newLook (k : Int) (v : JV) (o : Option JV) : Option JV :=
  if k = 1 then (match o with | some u => if SameT u v then some u else some v | none => some v) else if k = 2 then none else o
structure DoesTo (b d : BoxD) (k : Int) (id : ByteArray) (v : JV) : Prop where
  rise : Rise d.objs
  seq : d.seq = b.seq + cnt k v (look b.objs id)
  at_ : look d.objs id = newLook k v (look b.objs id)
  other : ∀ j, j ≠ id → look d.objs j = look b.objs j
  told : ∀ j, j ≠ id → toldB d.trail j = true → toldB b.trail j = true
theorem told_chg {b : BoxD} {os : Obs} {id : ByteArray} {what : Int} : ∀ j, j ≠ id → toldB (chgB b os id what).trail j = true → toldB b.trail j = true := by
  intro j hj h
  unfold toldB chgB addL at h
  obtain ⟨e, he, hd⟩ := List.any_eq_true.1 h
  have hm := List.mem_of_mem_drop he
  simp at hd
  rcases List.mem_append.1 hm with h1 | h1
  · exact List.any_eq_true.2 ⟨e, h1, by simpa using hd⟩
  · simp at h1
    subst h1
    exact absurd hd.symm hj
theorem chg_to {b : BoxD} {os : Obs} {k : Int} {id : ByteArray} {v : JV} {what : Int} (hr : Rise os) (h1 : cnt k v (look b.objs id) = 1) (h2 : look os id = newLook k v (look b.objs id)) (h3 : ∀ j, j ≠ id → look os j = look b.objs j) :
    DoesTo b (chgB b os id what) k id v := ⟨hr, by rw [h1]; rfl, h2, h3, told_chg⟩
theorem same_to {b : BoxD} {k : Int} {id : ByteArray} {v : JV} (hr : Rise b.objs) (h1 : cnt k v (look b.objs id) = 0) (h2 : look b.objs id = newLook k v (look b.objs id)) : DoesTo b b k id v :=
  ⟨hr, by rw [h1]; omega, h2, fun _ _ => rfl, fun _ _ h => h⟩
theorem doesB_to {b : BoxD} {k : Int} {id : ByteArray} {v : JV} (hr : Rise b.objs) (hs : b.seq < 9007199254740991) (hg : isAt b.objs id = true ∨ toldB b.trail id = false) : DoesTo b (doesB b k id v) k id v := by
  have hns : ¬ 9007199254740991 ≤ b.seq := by omega
  unfold doesB actB
  by_cases k1 : k = 1
  · subst k1
    rw [if_pos rfl]
    unfold putB
    by_cases ha : isAt b.objs id = true
    · have hl : look b.objs id = some (oldV b.objs id) := by unfold look; rw [if_pos ha]
      rw [if_pos ha]
      by_cases hsm : SameT (oldV b.objs id) v
      · rw [if_pos hsm]
        simp only [if_pos]
        refine same_to hr ?_ ?_ <;> rw [hl] <;> simp [cnt, newLook, hsm]
      · rw [if_neg hsm, if_neg hns]
        simp only [if_pos]
        have e : b.objs.set (lowN b.objs id) (id, v) = putL b.objs id v := by unfold putL; rw [if_pos ha]
        rw [e]
        refine chg_to (putL_rise hr id v) ?_ ?_ (fun j hj => look_put_ne hr v hj)
        · rw [hl]
          simp [cnt, hsm]
        · rw [hl, look_put hr]
          simp [newLook, hsm]
    · have hl : look b.objs id = none := by unfold look; rw [if_neg ha]
      have ht : ¬ toldB b.trail id = true := by rcases hg with h | h <;> simp_all
      rw [if_neg ha, if_neg ht, if_neg hns]
      simp only [if_pos]
      have e : b.objs.take (lowN b.objs id) ++ (id, v) :: b.objs.drop (lowN b.objs id) = putL b.objs id v := by unfold putL; rw [if_neg ha]
      rw [e]
      refine chg_to (putL_rise hr id v) ?_ ?_ (fun j hj => look_put_ne hr v hj)
      · rw [hl]
        simp [cnt]
      · rw [hl, look_put hr]
        simp [newLook]
  · rw [if_neg k1]
    by_cases k2 : k = 2
    · subst k2
      rw [if_pos rfl]
      unfold dropB
      by_cases ha : isAt b.objs id = true
      · have hl : look b.objs id = some (oldV b.objs id) := by unfold look; rw [if_pos ha]
        rw [if_neg (show ¬ isAt b.objs id = false by rw [ha]; decide), if_neg hns]
        simp only [if_pos]
        have e : b.objs.take (lowN b.objs id) ++ b.objs.drop (lowN b.objs id + 1) = delL b.objs id := by unfold delL; rw [if_pos ha]
        rw [e]
        refine chg_to (delL_rise hr id) ?_ ?_ (fun j hj => look_del_ne hr hj)
        · rw [hl]
          simp [cnt]
        · rw [look_del hr]
          simp [newLook]
      · have hl : look b.objs id = none := by unfold look; rw [if_neg ha]
        rw [if_pos (show isAt b.objs id = false by simpa using ha)]
        simp only [if_neg (show ¬ (81 : Int) = 0 by decide)]
        refine same_to hr ?_ ?_ <;> rw [hl] <;> simp [cnt, newLook]
    · rw [if_neg k2]
      simp only [if_neg (show ¬ (81 : Int) = 0 by decide)]
      refine same_to hr ?_ ?_ <;> simp [cnt, newLook, k1, k2]
theorem cnt_le (k : Int) (v : JV) (o : Option JV) : cnt k v o ≤ 1 := by
  unfold cnt
  split
  · cases o with
    | none => show (1 : Int) ≤ 1; decide
    | some u => by_cases h : SameT u v <;> simp [h]
  · split
    · cases o with
      | none => show (0 : Int) ≤ 1; decide
      | some u => show (1 : Int) ≤ 1; decide
    · decide
/-- What is there or not yet told of. -/
def NotGone (b : BoxD) (id : ByteArray) : Prop := isAt b.objs id = true ∨ toldB b.trail id = false
theorem DoesTo.notGone {b d : BoxD} {k : Int} {id j : ByteArray} {v : JV} (h : DoesTo b d k id v) (hj : j ≠ id) (hg : NotGone b j) : NotGone d j := by
  rcases hg with hg | hg
  · left
    rw [← look_isSome, h.other j hj, look_isSome, hg]
  · right
    cases e : toldB d.trail j with
    | false => rfl
    | true => rw [h.told j hj e] at hg; exact absurd hg (by decide)
theorem order_law {b : BoxD} {k1 k2 : Int} {i1 i2 : ByteArray} {v1 v2 : JV} (hr : Rise b.objs) (hs : b.seq ≤ 1125899906842624) (hne : i1 ≠ i2) (h1 : NotGone b i1) (h2 : NotGone b i2) :
    (doesB (doesB b k1 i1 v1) k2 i2 v2).seq = (doesB (doesB b k2 i2 v2) k1 i1 v1).seq ∧ (doesB (doesB b k1 i1 v1) k2 i2 v2).objs = (doesB (doesB b k2 i2 v2) k1 i1 v1).objs := by
  have a1 := doesB_to (k := k1) (v := v1) hr (by omega) h1
  have a2 := doesB_to (k := k2) (v := v2) hr (by omega) h2
  have c1 := cnt_le k1 v1 (look b.objs i1)
  have c2 := cnt_le k2 v2 (look b.objs i2)
  have s1 := a1.seq
  have s2 := a2.seq
  have b2 := doesB_to (k := k2) (v := v2) a1.rise (by omega) (a1.notGone (Ne.symm hne) h2)
  have b1 := doesB_to (k := k1) (v := v1) a2.rise (by omega) (a2.notGone hne h1)
  have t1 := b1.seq
  have t2 := b2.seq
  rw [a2.other i1 hne] at t1
  rw [a1.other i2 (Ne.symm hne)] at t2
  refine ⟨by omega, look_ext b2.rise b1.rise fun j => ?_⟩
  by_cases e1 : j = i1
  · subst e1
    rw [b2.other j hne, a1.at_, b1.at_, a2.other j hne]
  · by_cases e2 : j = i2
    · subst e2
      rw [b2.at_, a1.other j e1, b1.other j e1, a2.at_]
    · rw [b2.other j e2, a1.other j e1, b1.other j e1, a2.other j e2]
theorem addF_wf {l : List En} {floor keep : Int} {e : En} (hl : ∀ x ∈ l, x.ok) (he : e.ok) (hf : (Lit.int .i64 floor).wf = true) : (Lit.int .i64 (addF l floor keep e)).wf = true := by
  unfold addF
  split
  · exact hf
  · cases hx : (l ++ [e])[addGone l.length keep - 1]? with
    | none => decide
    | some x =>
      have hm := List.mem_of_getElem? hx
      rcases List.mem_append.1 hm with h | h
      · exact (hl x h).1
      · simp at h
        subst h
        exact he.1
theorem chgB_ok {b : BoxD} {os : Obs} {id : ByteArray} {what : Int} (ob : b.Ok) (hl : ∀ x ∈ b.trail, x.ok) (hs : b.seq < 9007199254740991) (ht : b.trail.length ≤ 1000) (hid : id.size ≤ 140737488351232) (hw : (Lit.int .i64 what).wf = true) (h1 : os.length ≤ 1466015503658)
    (h2 : ∀ p ∈ os, p.1.size ≤ 140737488351232 ∧ p.2.Ok) : (chgB b os id what).Ok := by
  have hsw := wf_bounds ob.seq
  have hq : (Lit.int .i64 (b.seq + 1)).wf = true := wf_of (by omega) (by omega)
  have he : En.ok ⟨b.seq + 1, id, what⟩ := ⟨hq, (show id.size ≤ maxLen by unfold maxLen; omega), hw⟩
  refine ⟨h1, h2, ?_, hq, addF_wf hl he ob.floor, ob.keep⟩
  show ((b.trail ++ [_]).drop _).length ≤ _
  rw [List.length_drop, List.length_append]
  simp
  omega
theorem chgB_trail (b : BoxD) (os : Obs) (id : ByteArray) (what : Int) : (chgB b os id what).trail.length ≤ b.trail.length + 1 := by
  show ((b.trail ++ [_]).drop _).length ≤ _
  rw [List.length_drop, List.length_append]
  simp
theorem doesB_ok {b : BoxD} {k : Int} {id : ByteArray} {v : JV} (ob : b.Ok) (hl : ∀ x ∈ b.trail, x.ok) (ho : b.objs.length ≤ 1000) (ht : b.trail.length ≤ 1000) (hid : id.size ≤ 140737488351232) (ov : v.Ok) :
    (doesB b k id v).Ok ∧ (doesB b k id v).objs.length ≤ b.objs.length + 1 ∧ (doesB b k id v).trail.length ≤ b.trail.length + 1 := by
  have base : b.Ok ∧ b.objs.length ≤ b.objs.length + 1 ∧ b.trail.length ≤ b.trail.length + 1 := ⟨ob, by omega, by omega⟩
  have hlow := lowN_le b.objs id
  unfold doesB actB
  by_cases k1 : k = 1
  · subst k1
    rw [if_pos rfl]
    unfold putB
    by_cases ha : isAt b.objs id = true
    · rw [if_pos ha]
      by_cases hsm : SameT (oldV b.objs id) v
      · rw [if_pos hsm]
        simp only [if_pos]
        exact base
      · rw [if_neg hsm]
        by_cases hns : 9007199254740991 ≤ b.seq
        · rw [if_pos hns]
          simp only [if_neg (show ¬ (180 : Int) = 0 by decide)]
          exact base
        · rw [if_neg hns]
          simp only [if_pos]
          refine ⟨chgB_ok ob hl (by omega) ht hid (by decide) (by simp; omega) (fun p hp => ?_), ?_, chgB_trail _ _ _ _⟩
          · rcases List.mem_or_eq_of_mem_set hp with h | rfl
            · exact ob.each p h
            · exact ⟨hid, ov⟩
          · show (b.objs.set _ _).length ≤ _
            simp
    · rw [if_neg ha]
      by_cases ht2 : toldB b.trail id = true
      · rw [if_pos ht2]
        simp only [if_neg (show ¬ (181 : Int) = 0 by decide)]
        exact base
      · rw [if_neg ht2]
        by_cases hns : 9007199254740991 ≤ b.seq
        · rw [if_pos hns]
          simp only [if_neg (show ¬ (180 : Int) = 0 by decide)]
          exact base
        · rw [if_neg hns]
          simp only [if_pos]
          refine ⟨chgB_ok ob hl (by omega) ht hid (by decide) (by simp; omega) (fun p hp => ?_), ?_, chgB_trail _ _ _ _⟩
          · rcases List.mem_append.1 hp with h | h
            · exact ob.each p (List.mem_of_mem_take h)
            · rcases List.mem_cons.1 h with rfl | h
              · exact ⟨hid, ov⟩
              · exact ob.each p (List.mem_of_mem_drop h)
          · show (b.objs.take _ ++ _ :: b.objs.drop _).length ≤ _
            simp
            omega
  · rw [if_neg k1]
    by_cases k2 : k = 2
    · subst k2
      rw [if_pos rfl]
      unfold dropB
      by_cases ha : isAt b.objs id = false
      · rw [if_pos ha]
        simp only [if_neg (show ¬ (81 : Int) = 0 by decide)]
        exact base
      · rw [if_neg ha]
        by_cases hns : 9007199254740991 ≤ b.seq
        · rw [if_pos hns]
          simp only [if_neg (show ¬ (180 : Int) = 0 by decide)]
          exact base
        · rw [if_neg hns]
          simp only [if_pos]
          refine ⟨chgB_ok ob hl (by omega) ht hid (by decide) (by simp; omega) (fun p hp => ?_), ?_, chgB_trail _ _ _ _⟩
          · rcases List.mem_append.1 hp with h | h
            · exact ob.each p (List.mem_of_mem_take h)
            · exact ob.each p (List.mem_of_mem_drop h)
          · show (b.objs.take _ ++ b.objs.drop _).length ≤ _
            simp
            omega
    · rw [if_neg k2]
      simp only [if_neg (show ¬ (81 : Int) = 0 by decide)]
      exact base
theorem doesB_trail {b : BoxD} {k : Int} {id : ByteArray} {v : JV} (ob : b.Ok) (hl : ∀ x ∈ b.trail, x.ok) (hid : id.size ≤ 140737488351232) : ∀ x ∈ (doesB b k id v).trail, x.ok := by
  have hsw := wf_bounds ob.seq
  have key : ∀ (os : Obs) (what : Int), (Lit.int .i64 what).wf = true → ¬ 9007199254740991 ≤ b.seq → ∀ x ∈ (chgB b os id what).trail, x.ok := fun os what hw hs =>
    addL_oks hl ⟨wf_of (by show -9223372036854775808 ≤ b.seq + 1; omega) (by show b.seq + 1 ≤ _; omega), (show id.size ≤ maxLen by unfold maxLen; omega), hw⟩
  have act : (actB b k id v).2 = 0 → ∀ x ∈ (actB b k id v).1.trail, x.ok := by
    unfold actB putB dropB
    intro h
    by_cases k1 : k = 1
    · simp only [if_pos k1] at h ⊢
      by_cases ha : isAt b.objs id = true
      · simp only [if_pos ha] at h ⊢
        by_cases hsm : SameT (oldV b.objs id) v
        · simp only [if_pos hsm]; exact hl
        · simp only [if_neg hsm] at h ⊢
          by_cases hs : 9007199254740991 ≤ b.seq
          · simp only [if_pos hs] at h; exact absurd h (by decide)
          · simp only [if_neg hs]; exact key _ _ (by decide) hs
      · simp only [if_neg ha] at h ⊢
        by_cases ht : toldB b.trail id = true
        · simp only [if_pos ht] at h; exact absurd h (by decide)
        · simp only [if_neg ht] at h ⊢
          by_cases hs : 9007199254740991 ≤ b.seq
          · simp only [if_pos hs] at h; exact absurd h (by decide)
          · simp only [if_neg hs]; exact key _ _ (by decide) hs
    · simp only [if_neg k1] at h ⊢
      by_cases k2 : k = 2
      · simp only [if_pos k2] at h ⊢
        by_cases ha : isAt b.objs id = false
        · simp only [if_pos ha] at h; exact absurd h (by decide)
        · simp only [if_neg ha] at h ⊢
          by_cases hs : 9007199254740991 ≤ b.seq
          · simp only [if_pos hs] at h; exact absurd h (by decide)
          · simp only [if_neg hs]; exact key _ _ (by decide) hs
      · simp only [if_neg k2] at h; exact absurd h (by decide)
  unfold doesB
  by_cases h : (actB b k id v).2 = 0
  · rw [if_pos h]; exact act h
  · rw [if_neg h]; exact hl
end Go.Proofs.Ythgkgjcnmahacaa
end

section
/- store.Ids, walked. -/
set_option linter.unusedSimpArgs false
set_option linter.unusedVariables false
namespace Go.Proofs.Ythgkgjcnmahacaa
open Go.RowKit Go.OpenShut

def encS (s : ByteArray) : List Value := [.string s]
theorem codecS : Codec encS 1 := ⟨fun _ => rfl, fun x u hu => by
  simp only [encS, List.mem_cons, List.not_mem_nil, or_false] at hu
  subst hu; rfl, by decide⟩
theorem slS : SlT Try.prog 43 9 1 16 := SlT.mk (z := .string ByteArray.empty) Try.underlying43 (by kernel_rfl) rfl
def IdsRet (w : World) (l : List ByteArray) (e : Ending) (w' : World) : Prop := ∃ u, e = .returned u ∧ Own w' w.heap.size 9 encS 1 u l ∧ Below w.heap.size w w'

set_option maxRecDepth 100000 in
set_option maxHeartbeats 2000000 in
theorem ids_any (b : BoxD) (r : RB) (w : World) (hb : BoxOf w w.heap.size b r) (ob : b.Ok) :
    Calls Try.prog 24 #[r.val] w (IdsRet w (b.objs.map (·.1))) := by
  have ho := hb.objs
  obtain ⟨po, no, co, pt, nt, ct, sq, fl, kp⟩ := r
  dsimp only [RB.val] at *
  obtain ⟨rms, hrd, hms⟩ := ho
  have hn := rd_nlen hrd
  have hlm := hms.len
  have hzo := ob.objs
  have hA0 : BoxAt (w.alloc (.cells #[.slice po no co, .slice pt nt ct, .int .i64 sq, .int .i64 fl, .int .i64 kp] 35)) w.heap.size ⟨po, no, co, pt, nt, ct, sq, fl, kp⟩ := heap_alloc_at rfl
  have hB0 : Below w.heap.size w (w.alloc (.cells #[.slice po no co, .slice pt nt ct, .int .i64 sq, .int .i64 fl, .int .i64 kp] 35)) := (Below.refl _ _).alloc (Nat.le_refl _) _
  have HRD := Lib.hid hrd
  have HMS := Lib.hid hms
  have HN : Hid (b.objs.length = no ∧ rms.length = no) := ⟨by omega, by omega⟩
  have hno : no ≤ 1466015503658 := by omega
  clear hb hrd hms hn hlm hzo ob
  go_enter Try.func24, Try.ntmps24
  go_upto_region 1 with fail
  obtain ⟨W0, hW0⟩ : ∃ W0, (w.alloc (.cells #[.slice po no co, .slice pt nt ct, .int .i64 sq, .int .i64 fl, .int .i64 kp] 35)) = W0 := ⟨_, rfl⟩
  rw [hW0] at hA0 hB0 ⊢
  clear hW0
  have c0 := hA0.cell 0 rfl
  dsimp only at c0
  have HB := Lib.hid hB0
  have hz := hA0.lt
  clear hA0 hB0
  go_wp2_with fail
  go_loopw [3, 9] (fun o i wr => ∃ k : Nat, k ≤ no ∧ i = .int .i64 k ∧ Hid (Own wr w.heap.size 9 encS 1 o ((b.objs.take k).map (·.1))) ∧ Below w.heap.size w wr) (fun _ i _ => no - (intOf i).toNat)
  case atStart => exact ⟨0, Nat.zero_le _, rfl, Own.nil _ _ _, HB.out⟩
  case round =>
    obtain ⟨k, hk, rfl, hown, hbr⟩ := hrel
    by_cases hlt : k < no
    · obtain ⟨x, hx⟩ : ∃ x, rms[k]? = some x := ⟨_, List.getElem?_eq_getElem (by have := HN.out; omega)⟩
      obtain ⟨p, hp⟩ : ∃ x, b.objs[k]? = some x := ⟨_, List.getElem?_eq_getElem (by have := HN.out; omega)⟩
      have hpn := HMS.out.name _ p x hp hx
      obtain ⟨b1, o1, rfl, hb1, hc1⟩ := rd_at' (HRD.out.below hbr (Nat.le_refl _)) hx
      have f0 := hc1 0 _ rfl
      have f1 := hc1 1 _ rfl
      have f2 := hc1 2 _ rfl
      have f3 := hc1 3 _ rfl
      have f4 := hc1 4 _ rfl
      have f5 := hc1 5 _ rfl
      rw [Nat.add_zero] at f0
      have hk0 : (0 : Int) ≤ (k : Int) := Int.natCast_nonneg _
      have hk1 : (k : Int) < (no : Int) := by omega
      have hsn : (b.objs.take (k + 1)).map (·.1) = (b.objs.take k).map (·.1) ++ [x.name] := by rw [List.take_add_one, hp]; simp [hpn]
      have HSN := Lib.hid hsn
      have HBR := Lib.hid hbr
      have HO2 := Lib.hid ((hown.out.alloc (.cells #[.string x.name, .int .i64 x.v.k, .int .i64 x.v.n, .string x.v.s, .slice x.v.pl x.v.nl x.v.cl, .slice x.v.pm x.v.nm x.v.cm] 46)).alloc (.cells #[.string x.name] 9))
      have HB2 := Lib.hid ((hbr.alloc hbr.size (.cells #[.string x.name, .int .i64 x.v.k, .int .i64 x.v.n, .string x.v.s, .slice x.v.pl x.v.nl x.v.cl, .slice x.v.pm x.v.nm x.v.cm] 46)).alloc (by simp; have := hbr.size; omega) (.cells #[.string x.name] 9))
      have HR2 : Hid (Rd ((wr.alloc (.cells #[.string x.name, .int .i64 x.v.k, .int .i64 x.v.n, .string x.v.s, .slice x.v.pl x.v.nl x.v.cl, .slice x.v.pm x.v.nm x.v.cm] 46)).alloc (.cells #[.string x.name] 9)) (wr.heap.size + 1 + 1) encS 1 (.slice (some ⟨wr.heap.size + 1, 0, none⟩) 1 1) [x.name]) := Rd.one codecS (heap_alloc_at (by simp)) rfl (by omega)
      have hl : ((b.objs.take k).map (·.1)).length ≤ 1466015503658 := by simp; omega
      have HL := Lib.hid hl
      clear hx hp hpn hc1 hbr hsn hown hl
      go_wp2_with (at_builtin; refine wpList_append_rd slS codecS _ rfl _ _ rfl rfl rfl HO2.out HR2.out (by have := HL.out; simp only [List.length_singleton]; unfold maxLen; omega) (by have := HL.out; simp only [List.length_singleton]; omega) (by have := HBR.out.size; simp; omega) ?_; intro v1 w1 ho1 hg1 hat1)
      go_roundw
      case rel => exact ⟨k + 1, by omega, by go_num, by unfold Hid; rw [HSN.out]; exact ho1, Below.appended HB2.out hg1 HO2.out HB2.out.size⟩
      case measure => simp [intOf]; omega
    · obtain rfl : k = no := by omega
      go_wp2_with fail
      go_ret
      refine ⟨_, rfl, ?_, hbr⟩
      have h := hown.out
      rw [List.take_of_length_le (by have := HN.out; omega)] at h
      exact h
end Go.Proofs.Ythgkgjcnmahacaa
end

section
/- What a trail says of an id; slices read by their places. -/
set_option linter.unusedSimpArgs false
set_option linter.unusedVariables false
namespace Go.Proofs.Ythgkgjcnmahacaa
open Go.RowKit Go.OpenShut

/-- What is said of an id. -/
structure Pa where
  id : ByteArray
  was : Bool
  isb : Bool
  last : Int
deriving DecidableEq
def encP (p : Pa) : List Value := [.string p.id, .bool p.was, .bool p.isb, .int .i64 p.last]
theorem codecP : Codec encP 4 := ⟨fun _ => rfl, fun x u hu => by
  simp only [encP, List.mem_cons, List.not_mem_nil, or_false] at hu
  rcases hu with rfl | rfl | rfl | rfl <;> rfl, by decide⟩

def Pa.eqv (a b : Pa) : Bool := a.id.toList == b.id.toList && a.was == b.was && a.isb == b.isb && a.last == b.last
theorem Pa.eqv_eq (a b : Pa) : a.eqv b = decide (a = b) := by
  obtain ⟨i, x, y, s⟩ := a
  obtain ⟨j, x', y', t⟩ := b
  unfold Pa.eqv
  rw [toList_beq]
  by_cases h1 : i = j <;> by_cases h2 : x = x' <;> by_cases h3 : y = y' <;> by_cases h4 : s = t <;> simp [h1, h2, h3, h4]

theorem rd_at {α : Type} {enc : α → List Value} {sz n cap k B : Nat} {w : World} {p : Option Addr} {xs : List α} (h : Rd w B enc sz (.slice p n cap) xs) {x : α} (hx : xs[k]? = some x) :
    ∃ b o, p = some ⟨b, o, none⟩ ∧ b < B ∧ ∀ j u, (enc x)[j]? = some u → w.cell? ⟨b, o + k * sz + j, none⟩ = some u := by
  obtain ⟨p', cap', he, h1, h2, h3, h4⟩ := h
  simp only [Value.slice.injEq] at he
  obtain ⟨rfl, rfl, rfl⟩ := he
  have hk := (List.getElem?_eq_some_iff.1 hx).1
  cases p with
  | none => have := h3 rfl; omega
  | some a =>
    obtain ⟨b, o, rfl, hb, hr⟩ := h4 a rfl (by omega)
    exact ⟨b, o, rfl, hb, hr k x hx⟩
theorem rd_len {α : Type} {enc : α → List Value} {sz B : Nat} {w : World} {v : Value} {xs : List α} (h : Rd w B enc sz v xs) : ∃ p cap, v = .slice p xs.length cap ∧ xs.length ≤ cap ∧ cap ≤ 9223372036854775807 := by
  obtain ⟨p, cap, he, h1, h2, _⟩ := h
  exact ⟨p, cap, he, h1, h2⟩

theorem eqTake_snoc {α : Type} [DecidableEq α] {l m : List α} {k : Nat} {x : α} (hx : l[k]? = some x) (hy : m[k]? = some x) (h : l.take k = m.take k) : l.take (k + 1) = m.take (k + 1) := by
  rw [List.take_add_one, List.take_add_one, hx, hy, h]
theorem eqTake_ne {α : Type} [DecidableEq α] {l m : List α} {k : Nat} {x y : α} (hx : l[k]? = some x) (hy : m[k]? = some y) (h : x ≠ y) : decide (l = m) = false := by
  rw [decide_eq_false_iff_not]
  rintro rfl
  rw [hx] at hy
  exact h (by simpa using hy)

theorem infoP : (Try.prog.info? 128).map (fun i => (i.zero, i.size, i.bytes)) = some (some (.agg #[.string ByteArray.empty, .bool false, .bool false, .int .i64 0]), 4, 32) := by kernel_rfl
end Go.Proofs.Ythgkgjcnmahacaa
end

section
/- New boxes; a number as a value; lists of texts compared: walked. -/
set_option linter.unusedSimpArgs false
set_option linter.unusedVariables false
namespace Go.Proofs.Ythgkgjcnmahacaa
open Go.RowKit Go.OpenShut

/-- A number between two others. -/
def clampI (n hi : Int) : Int := if n < 0 then 0 else if hi < n then hi else n
theorem clamp_eq {n hi : Int} (h : 0 ≤ hi := by decide) : min (max n 0) hi = clampI n hi := by unfold clampI; split <;> (try split) <;> omega
def newB (start keep : Int) : BoxD := ⟨[], [], clampI start 9007199254740991, clampI start 9007199254740991, clampI keep 1000⟩
def newR (start keep : Int) : RB := ⟨none, 0, 0, none, 0, 0, clampI start 9007199254740991, clampI start 9007199254740991, clampI keep 1000⟩
theorem newB_of (w : World) (B : Nat) (start keep : Int) : BoxOf w B (newB start keep) (newR start keep) := ⟨ObjsOf.nil _ _, RdE.nil _ _, rfl, rfl, rfl⟩
def NewRetB (w : World) (start keep : Int) (e : Ending) (w' : World) : Prop := e = .returned (RB.val (newR start keep)) ∧ Below w.heap.size w w'
theorem ret_new {a b c d : Int} (h1 : a = b) (h2 : c = d) : Ending.returned (RB.val ⟨none, 0, 0, none, 0, 0, a, a, c⟩) = .returned (RB.val ⟨none, 0, 0, none, 0, 0, b, b, d⟩) := by rw [h1, h2]

set_option maxRecDepth 100000 in
set_option maxHeartbeats 2000000 in
theorem new_any (start keep : Int) (w : World) : Calls Try.prog 29 #[.int .i64 start, .int .i64 keep] w (NewRetB w start keep) := by
  have hZ0 : BoxAt (w.alloc (.cells #[.slice none 0 0, .slice none 0 0, .int .i64 0, .int .i64 0, .int .i64 0] 35)) w.heap.size RB.zero := heap_alloc_at rfl
  have hB0 : Below w.heap.size w (w.alloc (.cells #[.slice none 0 0, .slice none 0 0, .int .i64 0, .int .i64 0, .int .i64 0] 35)) := (Below.refl _ _).alloc (Nat.le_refl _) _
  go_enter Try.func29, Try.ntmps29
  go_upto_region 1 with fail
  obtain ⟨W0, hW0⟩ : ∃ W0, (w.alloc (.cells #[.slice none 0 0, .slice none 0 0, .int .i64 0, .int .i64 0, .int .i64 0] 35)) = W0 := ⟨_, rfl⟩
  rw [hW0] at hZ0 hB0 ⊢
  clear hW0
  have z0 := hZ0.cell 0 rfl
  have z1 := hZ0.cell 1 rfl
  have z2 := hZ0.cell 2 rfl
  have z3 := hZ0.cell 3 rfl
  have z4 := hZ0.cell 4 rfl
  dsimp only [RB.zero] at z0 z1 z2 z3 z4
  have y0 := hZ0.frozen 0
  have y1 := hZ0.frozen 1
  have y2 := hZ0.frozen 2
  have y3 := hZ0.frozen 3
  have y4 := hZ0.frozen 4
  have HZ := Lib.hid hZ0
  have HB := Lib.hid hB0
  clear hZ0 hB0
  go_wp2_with fail
  have hS := HZ.out.stored (newR start keep)
  have hg := grownBy_setB W0 w.heap.size (newR start keep)
  refine bodyPost_ret (v := RB.val (newR start keep)) (by simp [results, Try.results29, go_sem, newR, clamp_eq, z0, z1, z2, z3, z4]) rfl ⟨rfl, ?_⟩
  exact Below.setCell (Below.setCell (Below.setCell (Below.setCell (Below.setCell HB.out (Nat.le_refl _) _) (Nat.le_refl _) _) (Nat.le_refl _) _) (Nat.le_refl _) _) (Nat.le_refl _) _

set_option maxRecDepth 100000 in
set_option maxHeartbeats 2000000 in
theorem num_any (n : Int) (w : World) : Calls Try.prog 56 #[.int .i64 n] w fun e w' => e = .returned (RV.val ⟨3, n, ⟨#[]⟩, none, 0, 0, none, 0, 0⟩) ∧ Below w.heap.size w w' := by
  have hZ0 : VAt (w.alloc (.cells #[.int .i64 0, .int .i64 0, .string ⟨#[]⟩, .slice none 0 0, .slice none 0 0] 25)) w.heap.size RV.zero := heap_alloc_at rfl
  have hB0 : Below w.heap.size w (w.alloc (.cells #[.int .i64 0, .int .i64 0, .string ⟨#[]⟩, .slice none 0 0, .slice none 0 0] 25)) := (Below.refl _ _).alloc (Nat.le_refl _) _
  go_enter Try.func56, Try.ntmps56
  go_upto_region 1 with fail
  obtain ⟨W0, hW0⟩ : ∃ W0, (w.alloc (.cells #[.int .i64 0, .int .i64 0, .string ⟨#[]⟩, .slice none 0 0, .slice none 0 0] 25)) = W0 := ⟨_, rfl⟩
  rw [hW0] at hZ0 hB0 ⊢
  clear hW0
  have z0 := hZ0.cell 0 rfl
  have z1 := hZ0.cell 1 rfl
  have z2 := hZ0.cell 2 rfl
  have z3 := hZ0.cell 3 rfl
  have z4 := hZ0.cell 4 rfl
  dsimp only [RV.zero] at z0 z1 z2 z3 z4
  have y0 := hZ0.frozen 0
  have y1 := hZ0.frozen 1
  have y2 := hZ0.frozen 2
  have y3 := hZ0.frozen 3
  have y4 := hZ0.frozen 4
  have HB := Lib.hid hB0
  clear hZ0 hB0
  go_wp2_with fail
  refine bodyPost_ret (v := RV.val ⟨3, n, ⟨#[]⟩, none, 0, 0, none, 0, 0⟩) (by simp [results, Try.results56, go_sem, z0, z1, z2, z3, z4]) rfl ⟨rfl, ?_⟩
  exact Below.stored HB.out (Nat.le_refl _) ⟨3, n, ⟨#[]⟩, none, 0, 0, none, 0, 0⟩

set_option maxRecDepth 100000 in
set_option maxHeartbeats 2000000 in
theorem sameParts_any (w : World) (B : Nat) (u v : Value) (l m : List ByteArray) (hu : Rd w B encS 1 u l) (hv : Rd w B encS 1 v m) :
    Calls Try.prog 49 #[u, v] w fun e w' => e = .returned (.bool (decide (l = m))) ∧ ∃ n, w' = w.drewN n := by
  obtain ⟨p, c, rfl, hlc, hcm⟩ := rd_len hu
  obtain ⟨q, d, rfl, hmd, hdm⟩ := rd_len hv
  have HU := Lib.hid hu
  have HV := Lib.hid hv
  clear hu hv
  by_cases hlen : l.length = m.length
  · have hb : ((l.length : Int) != (m.length : Int)) = false := by simp [hlen]
    have HL := Lib.hid hlen
    have hle : l.length ≤ m.length := by omega
    have hle2 : m.length ≤ l.length := by omega
    clear hlen
    go_enter Try.func49, Try.ntmps49
    go_wp2_with fail
    go_loopw [5] (fun i wr => ∃ k : Nat, k ≤ l.length ∧ i = .int .i64 k ∧ Hid (l.take k = m.take k) ∧ ∃ n, wr = w.drewN n) (fun i _ => l.length - (intOf i).toNat)
    case atStart => exact ⟨0, Nat.zero_le _, rfl, rfl, 0, rfl⟩
    case round =>
      obtain ⟨k, hk, rfl, htk, nr, rfl⟩ := hrel
      by_cases hlt : k < l.length
      · obtain ⟨x, hx⟩ : ∃ x, l[k]? = some x := ⟨_, List.getElem?_eq_getElem hlt⟩
        obtain ⟨y, hy⟩ : ∃ x, m[k]? = some x := ⟨_, List.getElem?_eq_getElem (by omega)⟩
        obtain ⟨b1, o1, rfl, hb1, hc1⟩ := rd_at HU.out hx
        obtain ⟨b2, o2, rfl, hb2, hc2⟩ := rd_at HV.out hy
        have f0 := hc1 0 _ rfl
        have g0 := hc2 0 _ rfl
        rw [Nat.add_zero, Nat.mul_one] at f0 g0
        have hk0 : (0 : Int) ≤ (k : Int) := Int.natCast_nonneg _
        have hk1 : (k : Int) < (l.length : Int) := by omega
        have hk2 : (k : Int) < (m.length : Int) := by omega
        have hq := str_beq x y
        by_cases hxy : x = y
        · have e2 : (x.toList == y.toList) = true := by rw [hq]; simpa using hxy
          have e1 : (x.toList != y.toList) = false := by rw [bne, e2]; rfl
          have HTK : Hid (l.take (k + 1) = m.take (k + 1)) := by
            unfold Hid
            rw [List.take_add_one, List.take_add_one, hx, hy, htk.out, hxy]
          clear hx hy hc1 hc2 hq hxy htk
          go_wp2_with fail
          go_quiet (fail)
          go_wp2_with fail
          go_roundw
          case rel => exact ⟨k + 1, by omega, by go_num, HTK, _, rfl⟩
          case measure => simp [intOf]; omega
        · have e2 : (x.toList == y.toList) = false := by rw [hq]; simpa using hxy
          have e1 : (x.toList != y.toList) = true := by rw [bne, e2]; rfl
          have HNO : Hid (decide (l = m) = false) := eqTake_ne hx hy hxy
          clear hx hy hc1 hc2 hq hxy htk
          go_wp2_with fail
          go_quiet (fail)
          go_wp2_with fail
          go_ret
          exact ⟨ret_bool HNO.out.symm, _, World.drewN_drewN _ _ _⟩
      · obtain rfl : k = l.length := by omega
        have HYES : Hid (decide (l = m) = true) := by
          have h := htk.out
          rw [List.take_of_length_le (Nat.le_refl _), List.take_of_length_le hle2] at h
          unfold Hid
          simpa using h
        go_wp2_with fail
        go_ret
        exact ⟨ret_bool HYES.out.symm, _, rfl⟩
  · have hb : ((l.length : Int) != (m.length : Int)) = true := by simp; omega
    have HNO : Hid (decide (l = m) = false) := by unfold Hid; rw [decide_eq_false_iff_not]; exact fun h => hlen (by rw [h])
    clear hlen
    go_enter Try.func49, Try.ntmps49
    go_wp2_with fail
    go_ret
    exact ⟨ret_bool HNO.out.symm, 0, rfl⟩
end Go.Proofs.Ythgkgjcnmahacaa
end

section
/- Texts in their order. -/
set_option linter.unusedSimpArgs false
set_option linter.unusedVariables false
namespace Go.Proofs.Ythgkgjcnmahacaa
open Go.RowKit Go.OpenShut

theorem less_cmpB : ∀ a b : List UInt8, Op.bytesLess a b = decide (Lib.compareBytes a b < 0)
  | [], [] => by simp [Op.bytesLess, Lib.compareBytes]
  | [], _ :: _ => by simp [Op.bytesLess, Lib.compareBytes]
  | _ :: _, [] => by simp [Op.bytesLess, Lib.compareBytes]
  | x :: a, y :: b => by
    have ih := less_cmpB a b
    unfold Op.bytesLess Lib.compareBytes
    by_cases h1 : x < y
    · simp [h1]
    · by_cases h2 : y < x
      · have : x ≠ y := fun e => by subst e; exact h1 h2
        simp [h1, h2, this]
      · have : x = y := by
          rw [UInt8.lt_iff_toNat_lt] at h1 h2
          exact UInt8.toNat_inj.1 (by omega)
        subst this
        simp [h1, ih]
theorem less_cmp (a b : ByteArray) : Op.bytesLess a.toList b.toList = decide (cmpN a b < 0) := by
  rw [ByteArray.toList_eq, ByteArray.toList_eq]
  exact less_cmpB _ _
/-- The first k objects rise. -/
def RisingTo (os : List (ByteArray × JV)) (k : Nat) : Prop := ∀ (i : Nat) p q, i + 1 < k → os[i]? = some p → os[i + 1]? = some q → cmpN p.1 q.1 < 0
theorem RisingTo.all {os : List (ByteArray × JV)} (h : RisingTo os os.length) : Rising os := by
  intro i j p q hij hi hj
  induction j generalizing q with
  | zero => omega
  | succ j ih =>
    have hl := (List.getElem?_eq_some_iff.1 hj).1
    by_cases e : i = j
    · subst e
      exact h i p q hl hi hj
    · obtain ⟨m, hm⟩ : ∃ m, os[j]? = some m := ⟨_, List.getElem?_eq_getElem (by omega)⟩
      exact cmpN_lt_trans (ih m (by omega) hm) (by have := h j m q hl hm hj; have := cmpN_neg m.1 q.1; omega)
theorem Rising.no {os : List (ByteArray × JV)} {i : Nat} {p q : ByteArray × JV} (hp : os[i]? = some p) (hq : os[i + 1]? = some q) (h : ¬ cmpN p.1 q.1 < 0) : ¬ Rising os := fun hr => h (hr i (i + 1) p q (by omega) hp hq)
end Go.Proofs.Ythgkgjcnmahacaa
end

section
/- slices.Backward at a slice of entries and at a slice of pointers: what it hands to a loop's body, from the last element to the first. -/
set_option linter.unusedSimpArgs false
set_option linter.unusedVariables false
namespace Go.Proofs.Ythgkgjcnmahacaa
open Go.RowKit Go.Shelf

attribute [local go_sem] Oper.semAt_some

/-- What a round keeps: all below n₀, and the block in which the slice is held. -/
def Kq (n₀ Bs : Nat) (W W' : World) : Prop := Below n₀ W W' ∧ W'.heap[Bs]? = W.heap[Bs]?
theorem Kq.refl (n₀ Bs : Nat) (W : World) : Kq n₀ Bs W W := ⟨Below.refl _ _, rfl⟩
theorem Kq.trans {n₀ Bs : Nat} {A B C : World} (h : Kq n₀ Bs A B) (k : Kq n₀ Bs B C) : Kq n₀ Bs A C := ⟨h.1.trans k.1, k.2.trans h.2⟩
theorem Kq.book {n₀ Bs : Nat} {w : World} (hn : n₀ ≤ w.heap.size) (hB : Bs < w.heap.size) (W : World) (l : Nat) (o o' : Obj) (hl : w.heap.size ≤ l) (h : W.heap[l]? = some o) (h1 : o.isCells = false) (h2 : o.isWalk = false) : Kq n₀ Bs W (W.putObj l o') :=
  ⟨belowK_b hn W l o o' hl h h1 h2, World.putObj_heap_other (by omega)⟩
theorem Kq.cell {n₀ Bs : Nat} {W W' : World} (h : Kq n₀ Bs W W') {v : Value} (hc : W.cell? ⟨Bs, 0, none⟩ = some v) : W'.cell? ⟨Bs, 0, none⟩ = some v := (World.cell?_of_block (w := W) h.2).trans hc

/-- What has come when k rounds are over. -/
def backTo {α : Type} (xs : List α) (k : Nat) : List (Nat × α) := (xs.zipIdx.reverse.take k).map fun p => (p.2, p.1)
theorem backTo_succ {α : Type} (xs : List α) (k j : Nat) (x : α) (hk : k < xs.length) (hj : xs.length - 1 - k = j) (hx : xs[j]? = some x) : backTo xs (k + 1) = backTo xs k ++ [(j, x)] := by
  subst hj
  unfold backTo
  rw [List.take_add_one, List.getElem?_reverse (by simpa using hk), List.length_zipIdx, List.getElem?_zipIdx, hx]
  simp
theorem backTo_length {α : Type} (xs : List α) (k : Nat) (hk : k ≤ xs.length) : (backTo xs k).length = k := by simp [backTo]; omega
theorem backTo_all {α : Type} (xs : List α) : (backTo xs xs.length).map (·.2) = xs.reverse := by
  unfold backTo
  rw [List.take_of_length_le (by simp), List.map_map, List.map_reverse]
  congr 1
  apply List.ext_getElem
  · simp
  · intro i h1 h2
    simp

/-- An entry that may be. -/
abbrev OkE := { e : En // e.ok }
def encO (x : OkE) : List Value := encE x.1

set_option maxRecDepth 100000 in
set_option maxHeartbeats 2000000 in
theorem backE1_in (F : Fence) (n : Nat) (h7 : F.fn 116) (hro : F.round = none) (hn : 1 ≤ n) (l Bs n₀ b off cap : Nat) (xs : List OkE) (hlen : xs.length ≤ 4398046511104) (hb : b < n₀) (J Jx : List (Nat × OkE) → World → Prop)
    (hY : ∀ pre x W, J pre W → pre.length < xs.length → YieldAt F (n - 1) Try.prog l #[.int .i64 (x.1 : Nat), .agg #[.int .i64 x.2.1.seq, .string x.2.1.id, .int .i64 x.2.1.what]] W fun e W' =>
      (e = .returned (.bool true) ∧ J (pre ++ [x]) W' ∧ Kq n₀ Bs W W') ∨ (e = .returned (.bool false) ∧ Jx (pre ++ [x]) W'))
    (W : World) (hBs : W.cell? ⟨Bs, 0, none⟩ = some (.slice (some ⟨b, off, none⟩) xs.length cap)) (hc : RowAt W b off encO 3 xs) (h0 : J [] W) :
    CallsIn F n Try.prog 116 #[.func (.yield l) #[] #[], .pointer (some ⟨Bs, 0, none⟩)] W fun e W' => (∃ v, e = .returned v) ∧
      ((∃ ys, ys = backTo xs xs.length ∧ J ys W') ∨ (∃ pre, True ∧ Jx pre W')) := by
  refine callsIn_of_wp Try.func116 rfl h7 ?_ hro
  simp only [Try.ntmps116, List.size_toArray, List.length_cons, List.length_nil, Nat.reduceAdd, Nat.reduceSub, Array.replicate_succ, Array.replicate_zero, List.push_toArray, List.append_toArray, List.nil_append, List.cons_append]
  gi_wp2
  gi_loopw [3] (fun i wr => ∃ k : Nat, k ≤ xs.length ∧ i = .int .i64 ((xs.length : Int) - 1 - (k : Int)) ∧ J (backTo xs k) wr ∧ Kq n₀ Bs W wr)
    (fun i _ => (intOf i + 1).toNat)
  case atStart => exact ⟨0, Nat.zero_le _, by congr 1; omega, h0, Kq.refl _ _ _⟩
  case round =>
    obtain ⟨k, hk, rfl, hJs, hnx⟩ := hrel
    have hcs := hnx.cell hBs
    by_cases hlt : k < xs.length
    · obtain ⟨j, hj⟩ : ∃ j, xs.length - 1 - k = j := ⟨_, rfl⟩
      have ej : (xs.length : Int) - 1 - (k : Int) = (j : Int) := by omega
      have hjl : j < xs.length := by omega
      obtain ⟨x, hx⟩ : ∃ x, xs[j]? = some x := ⟨_, List.getElem?_eq_getElem hjl⟩
      obtain ⟨fn, tmps, assign, body, hy, hR⟩ := hY _ (j, x) wr hJs (by rw [backTo_length _ _ hk]; exact hlt)
      dsimp only at hy
      have c0 := bcs hnx.1 hb (hc j x hx 0 _ rfl)
      have c1 := bcs hnx.1 hb (hc j x hx 1 _ rfl)
      have c2 := bcs hnx.1 hb (hc j x hx 2 _ rfl)
      rw [Nat.add_zero] at c0
      have hT : Hid (backTo xs (k + 1) = backTo xs k ++ [(j, x)]) := backTo_succ xs k j x hlt hj hx
      have HJ := Lib.hid hj
      clear hj hx hY
      have hR' := Lib.hid hR
      clear hR
      gi_wp2
      refine hR'.out.mono ?_
      rintro e W3 (⟨rfl, hJ3, hk3⟩ | ⟨rfl, hJx3⟩)
      · gi_wp2
        go_roundw
        case rel => exact ⟨k + 1, by omega, by congr 1; omega, by rw [hT.out]; exact hJ3, hnx.trans hk3⟩
        case measure => simp [intOf]; omega
      · gi_wp2
        refine bodyPost_ret (results_none rfl _ _ _) rfl ?_
        exact ⟨⟨_, rfl⟩, .inr ⟨_, trivial, hJx3⟩⟩
    · obtain rfl : k = xs.length := by omega
      gi_wp2
      go_end0
      exact ⟨⟨_, rfl⟩, .inl ⟨_, rfl, hJs⟩⟩

set_option maxRecDepth 100000 in
set_option maxHeartbeats 1000000 in
theorem backE1_nil (pa : Option Addr) (ca : Nat) (F : Fence) (n : Nat) (h7 : F.fn 116) (hro : F.round = none) (l Bs : Nat) (J : List (Nat × OkE) → World → Prop) (W : World) (hBs : W.cell? ⟨Bs, 0, none⟩ = some (.slice pa 0 ca)) (h0 : J [] W) :
    CallsIn F n Try.prog 116 #[.func (.yield l) #[] #[], .pointer (some ⟨Bs, 0, none⟩)] W fun e W' => (∃ v, e = .returned v) ∧ J [] W' := by
  refine callsIn_of_wp Try.func116 rfl h7 ?_ hro
  simp only [Try.ntmps116, List.size_toArray, List.length_cons, List.length_nil, Nat.reduceAdd, Nat.reduceSub, Array.replicate_succ, Array.replicate_zero, List.push_toArray, List.append_toArray, List.nil_append, List.cons_append]
  gi_wp2
  gi_loopw [3] (fun i wr => i = .int .i64 (-1) ∧ J [] wr) (fun _ _ => 0)
  case atStart => exact ⟨rfl, h0⟩
  case round =>
    obtain ⟨rfl, hJs⟩ := hrel
    gi_wp2
    go_end0
    exact ⟨⟨_, rfl⟩, hJs⟩

set_option maxHeartbeats 1000000 in
theorem backE_in (F : Fence) (n : Nat) (h5 : F.fn 91) (hro : F.round = none) (v : Value) (w : World) (hv : ∃ a len cap, v = .slice a len cap) :
    CallsIn F n Try.prog 91 #[v] w fun e w' => e = .returned (.func (.func 116) #[] #[.pointer (some ⟨w.heap.size, 0, none⟩)]) ∧ w' = w.alloc (.cells #[v] 33) := by
  obtain ⟨a, len, cap, rfl⟩ := hv
  refine callsIn_of_wp Try.func91 rfl h5 ?_ hro
  simp only [Try.ntmps91, List.size_toArray, List.length_cons, List.length_nil, Nat.reduceAdd, Nat.reduceSub, Array.replicate_succ, Array.replicate_zero, List.push_toArray, List.append_toArray, List.nil_append, List.cons_append]
  gi_wp2
  go_ret
  exact ⟨rfl, rfl⟩

theorem backE_stops (F : Fence) (n : Nat) (h7 : F.fn 116) (hro : F.round = none) (hn : 1 ≤ n) (Bs n₀ : Nat) (v : Value) (xs : List OkE) (hlen : xs.length ≤ 4398046511104) (w : World) (hBs : Bs < w.heap.size) (hn₀ : n₀ ≤ w.heap.size)
    (hc : w.cell? ⟨Bs, 0, none⟩ = some v) (hv : Rd w n₀ encO 3 v xs) :
    SeqStopsK F n Try.prog 116 #[.pointer (some ⟨Bs, 0, none⟩)] (fun x : Nat × OkE => #[.int .i64 (x.1 : Nat), .agg #[.int .i64 x.2.1.seq, .string x.2.1.id, .int .i64 x.2.1.what]]) (Kq n₀ Bs) (fun ys => ys = backTo xs xs.length) (fun _ => True) xs.length w := fun l J Jx W hW _ _ hY h0 => by
  have hc' := (hW.cell (p := ⟨Bs, 0, none⟩) hBs).trans hc
  obtain ⟨p, cap, rfl, h1, h2, h3, h4⟩ := hv
  cases p with
  | none =>
    have hc0 : cap = 0 := h3 rfl
    have hx : xs = [] := List.eq_nil_of_length_eq_zero (by omega)
    subst hx hc0
    exact (backE1_nil _ _ F n h7 hro l Bs J W hc' h0).mono fun e W' ⟨he, hj⟩ => ⟨he, .inl ⟨_, rfl, hj⟩⟩
  | some a =>
    by_cases hx0 : xs.length = 0
    · have hx : xs = [] := List.eq_nil_of_length_eq_zero hx0
      subst hx
      exact (backE1_nil _ _ F n h7 hro l Bs J W hc' h0).mono fun e W' ⟨he, hj⟩ => ⟨he, .inl ⟨_, rfl, hj⟩⟩
    obtain ⟨b, o, rfl, hb, hr⟩ := h4 a rfl (by omega)
    exact backE1_in F n h7 hro hn l Bs n₀ b o cap xs hlen hb J Jx hY W hc' (hr.below hW (by omega)) h0

/-- A pointer to the head of a block. -/
def encPt (b : Nat) : List Value := [.pointer (some ⟨b, 0, none⟩)]
theorem codecPt : Codec encPt 1 := ⟨fun _ => rfl, fun x u hu => by
  simp only [encPt, List.mem_cons, List.not_mem_nil, or_false] at hu
  rcases hu with rfl; rfl, by decide⟩

variable {p : Nat → Prop}
def encPs (x : {b : Nat // p b}) : List Value := encPt x.1

set_option maxRecDepth 100000 in
set_option maxHeartbeats 2000000 in
theorem backQ1_in (F : Fence) (n : Nat) (h7 : F.fn 117) (hro : F.round = none) (hn : 1 ≤ n) (l Bs n₀ b off cap : Nat) (xs : List {b : Nat // p b}) (hlen : xs.length ≤ 17592186044416) (hb : b < n₀) (J Jx : List (Nat × {b : Nat // p b}) → World → Prop)
    (hY : ∀ pre x W, J pre W → pre.length < xs.length → YieldAt F (n - 1) Try.prog l #[.int .i64 (x.1 : Nat), .pointer (some ⟨x.2.1, 0, none⟩)] W fun e W' =>
      (e = .returned (.bool true) ∧ J (pre ++ [x]) W' ∧ Kq n₀ Bs W W') ∨ (e = .returned (.bool false) ∧ Jx (pre ++ [x]) W'))
    (W : World) (hBs : W.cell? ⟨Bs, 0, none⟩ = some (.slice (some ⟨b, off, none⟩) xs.length cap)) (hc : RowAt W b off encPs 1 xs) (h0 : J [] W) :
    CallsIn F n Try.prog 117 #[.func (.yield l) #[] #[], .pointer (some ⟨Bs, 0, none⟩)] W fun e W' => (∃ v, e = .returned v) ∧
      ((∃ ys, ys = backTo xs xs.length ∧ J ys W') ∨ (∃ pre, True ∧ Jx pre W')) := by
  refine callsIn_of_wp Try.func117 rfl h7 ?_ hro
  simp only [Try.ntmps117, List.size_toArray, List.length_cons, List.length_nil, Nat.reduceAdd, Nat.reduceSub, Array.replicate_succ, Array.replicate_zero, List.push_toArray, List.append_toArray, List.nil_append, List.cons_append]
  gi_wp2
  gi_loopw [3] (fun i wr => ∃ k : Nat, k ≤ xs.length ∧ i = .int .i64 ((xs.length : Int) - 1 - (k : Int)) ∧ J (backTo xs k) wr ∧ Kq n₀ Bs W wr)
    (fun i _ => (intOf i + 1).toNat)
  case atStart => exact ⟨0, Nat.zero_le _, by congr 1; omega, h0, Kq.refl _ _ _⟩
  case round =>
    obtain ⟨k, hk, rfl, hJs, hnx⟩ := hrel
    have hcs := hnx.cell hBs
    by_cases hlt : k < xs.length
    · obtain ⟨j, hj⟩ : ∃ j, xs.length - 1 - k = j := ⟨_, rfl⟩
      have ej : (xs.length : Int) - 1 - (k : Int) = (j : Int) := by omega
      have hjl : j < xs.length := by omega
      obtain ⟨x, hx⟩ : ∃ x, xs[j]? = some x := ⟨_, List.getElem?_eq_getElem hjl⟩
      obtain ⟨fn, tmps, assign, body, hy, hR⟩ := hY _ (j, x) wr hJs (by rw [backTo_length _ _ hk]; exact hlt)
      dsimp only at hy
      have c0 := bcs hnx.1 hb (hc j x hx 0 _ rfl)
      rw [Nat.add_zero, Nat.mul_one] at c0
      have hT : Hid (backTo xs (k + 1) = backTo xs k ++ [(j, x)]) := backTo_succ xs k j x hlt hj hx
      have HJ := Lib.hid hj
      clear hj hx hY
      have hR' := Lib.hid hR
      clear hR
      gi_wp2
      refine hR'.out.mono ?_
      rintro e W3 (⟨rfl, hJ3, hk3⟩ | ⟨rfl, hJx3⟩)
      · gi_wp2
        go_roundw
        case rel => exact ⟨k + 1, by omega, by congr 1; omega, by rw [hT.out]; exact hJ3, hnx.trans hk3⟩
        case measure => simp [intOf]; omega
      · gi_wp2
        refine bodyPost_ret (results_none rfl _ _ _) rfl ?_
        exact ⟨⟨_, rfl⟩, .inr ⟨_, trivial, hJx3⟩⟩
    · obtain rfl : k = xs.length := by omega
      gi_wp2
      go_end0
      exact ⟨⟨_, rfl⟩, .inl ⟨_, rfl, hJs⟩⟩

set_option maxRecDepth 100000 in
set_option maxHeartbeats 1000000 in
theorem backQ1_nil (pa : Option Addr) (ca : Nat) (F : Fence) (n : Nat) (h7 : F.fn 117) (hro : F.round = none) (l Bs : Nat) (J : List (Nat × {b : Nat // p b}) → World → Prop) (W : World) (hBs : W.cell? ⟨Bs, 0, none⟩ = some (.slice pa 0 ca)) (h0 : J [] W) :
    CallsIn F n Try.prog 117 #[.func (.yield l) #[] #[], .pointer (some ⟨Bs, 0, none⟩)] W fun e W' => (∃ v, e = .returned v) ∧ J [] W' := by
  refine callsIn_of_wp Try.func117 rfl h7 ?_ hro
  simp only [Try.ntmps117, List.size_toArray, List.length_cons, List.length_nil, Nat.reduceAdd, Nat.reduceSub, Array.replicate_succ, Array.replicate_zero, List.push_toArray, List.append_toArray, List.nil_append, List.cons_append]
  gi_wp2
  gi_loopw [3] (fun i wr => i = .int .i64 (-1) ∧ J [] wr) (fun _ _ => 0)
  case atStart => exact ⟨rfl, h0⟩
  case round =>
    obtain ⟨rfl, hJs⟩ := hrel
    gi_wp2
    go_end0
    exact ⟨⟨_, rfl⟩, hJs⟩

set_option maxHeartbeats 1000000 in
theorem backQ_in (F : Fence) (n : Nat) (h5 : F.fn 92) (hro : F.round = none) (v : Value) (w : World) (hv : ∃ a len cap, v = .slice a len cap) :
    CallsIn F n Try.prog 92 #[v] w fun e w' => e = .returned (.func (.func 117) #[] #[.pointer (some ⟨w.heap.size, 0, none⟩)]) ∧ w' = w.alloc (.cells #[v] 135) := by
  obtain ⟨a, len, cap, rfl⟩ := hv
  refine callsIn_of_wp Try.func92 rfl h5 ?_ hro
  simp only [Try.ntmps92, List.size_toArray, List.length_cons, List.length_nil, Nat.reduceAdd, Nat.reduceSub, Array.replicate_succ, Array.replicate_zero, List.push_toArray, List.append_toArray, List.nil_append, List.cons_append]
  gi_wp2
  go_ret
  exact ⟨rfl, rfl⟩

theorem backQ_stops (F : Fence) (n : Nat) (h7 : F.fn 117) (hro : F.round = none) (hn : 1 ≤ n) (Bs n₀ : Nat) (v : Value) (xs : List {b : Nat // p b}) (hlen : xs.length ≤ 17592186044416) (w : World) (hBs : Bs < w.heap.size) (hn₀ : n₀ ≤ w.heap.size)
    (hc : w.cell? ⟨Bs, 0, none⟩ = some v) (hv : Rd w n₀ encPs 1 v xs) :
    SeqStopsK F n Try.prog 117 #[.pointer (some ⟨Bs, 0, none⟩)] (fun x : Nat × {b : Nat // p b} => #[.int .i64 (x.1 : Nat), .pointer (some ⟨x.2.1, 0, none⟩)]) (Kq n₀ Bs) (fun ys => ys = backTo xs xs.length) (fun _ => True) xs.length w := fun l J Jx W hW _ _ hY h0 => by
  have hc' := (hW.cell (p := ⟨Bs, 0, none⟩) hBs).trans hc
  obtain ⟨p, cap, rfl, h1, h2, h3, h4⟩ := hv
  cases p with
  | none =>
    have hc0 : cap = 0 := h3 rfl
    have hx : xs = [] := List.eq_nil_of_length_eq_zero (by omega)
    subst hx hc0
    exact (backQ1_nil _ _ F n h7 hro l Bs J W hc' h0).mono fun e W' ⟨he, hj⟩ => ⟨he, .inl ⟨_, rfl, hj⟩⟩
  | some a =>
    by_cases hx0 : xs.length = 0
    · have hx : xs = [] := List.eq_nil_of_length_eq_zero hx0
      subst hx
      exact (backQ1_nil _ _ F n h7 hro l Bs J W hc' h0).mono fun e W' ⟨he, hj⟩ => ⟨he, .inl ⟨_, rfl, hj⟩⟩
    obtain ⟨b, o, rfl, hb, hr⟩ := h4 a rfl (by omega)
    exact backQ1_in F n h7 hro hn l Bs n₀ b o cap xs hlen hb J Jx hY W hc' (hr.below hW (by omega)) h0
end Go.Proofs.Ythgkgjcnmahacaa
end
