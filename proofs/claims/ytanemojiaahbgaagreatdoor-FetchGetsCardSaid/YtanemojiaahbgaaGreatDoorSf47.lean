import Derived.Test.YtanemojiaahbgaaGreatDoorSf46
import Derived.Test.YtanemojiaahbgaaGreatDoorSf13
import Derived.Test.YtanemojiaahbgaaGreatDoorSf24
import Derived.Test.YtanemojiaahbgaaGreatDoorSf10
section
/- The plain law of order: acts of unlike ids lead to the same objects in either order. -/
set_option linter.unusedSimpArgs false
set_option linter.unusedVariables false
namespace Go.Proofs.YtanemojiaahbgaaGreatDoor
open Go.RowKit Go.OpenShut

abbrev Obs := List (ByteArray × JV)
def Rise (os : Obs) : Prop := os.Pairwise (fun p q => cmpN p.1 q.1 < 0)
theorem rise_iff {os : Obs} : Rising os ↔ Rise os := by
  unfold Rise
  rw [List.pairwise_iff_getElem]
  constructor
  · intro h i j hi hj hij
    exact h i j _ _ hij (List.getElem?_eq_getElem hi) (List.getElem?_eq_getElem hj)
  · intro h i j p q hij hp hq
    obtain ⟨hi, rfl⟩ := List.getElem?_eq_some_iff.1 hp
    obtain ⟨hj, rfl⟩ := List.getElem?_eq_some_iff.1 hq
    exact h i j hi hj hij
theorem cmp_ne {a b : ByteArray} (h : cmpN a b < 0) : a ≠ b := fun e => by subst e; rw [cmpN_self] at h; omega
theorem cmp_tri (a b : ByteArray) : cmpN a b < 0 ∨ a = b ∨ cmpN b a < 0 := by
  have h := cmpN_neg a b
  by_cases h1 : cmpN a b < 0
  · exact .inl h1
  · by_cases h2 : cmpN a b = 0
    · exact .inr (.inl (cmpN_eq h2))
    · exact .inr (.inr (by omega))
theorem cmp_trans {a b c : ByteArray} (h1 : cmpN a b < 0) (h2 : cmpN b c < 0) : cmpN a c < 0 := cmpN_lt_trans h1 (by have := cmpN_neg b c; omega)
theorem lowN_cons (p : ByteArray × JV) (os : Obs) (id : ByteArray) : lowN (p :: os) id = if cmpN p.1 id < 0 then lowN os id + 1 else 0 := by
  unfold lowN
  rw [List.takeWhile_cons]
  by_cases h : cmpN p.1 id < 0 <;> simp [h]
/-- What is under an id. -/
def look (os : Obs) (id : ByteArray) : Option JV := if isAt os id = true then some (oldV os id) else none
theorem isAt_cons (p : ByteArray × JV) (os : Obs) (id : ByteArray) : isAt (p :: os) id = if cmpN p.1 id < 0 then isAt os id else decide (p.1 = id) := by
  unfold isAt
  rw [lowN_cons]
  by_cases h : cmpN p.1 id < 0 <;> simp [h]
theorem oldV_cons (p : ByteArray × JV) (os : Obs) (id : ByteArray) : oldV (p :: os) id = if cmpN p.1 id < 0 then oldV os id else p.2 := by
  unfold oldV
  rw [lowN_cons]
  by_cases h : cmpN p.1 id < 0 <;> simp [h]
theorem look_nil (id : ByteArray) : look [] id = none := rfl
theorem look_cons (p : ByteArray × JV) (os : Obs) (id : ByteArray) : look (p :: os) id = if cmpN p.1 id < 0 then look os id else if p.1 = id then some p.2 else none := by
  unfold look
  rw [isAt_cons, oldV_cons]
  by_cases h : cmpN p.1 id < 0 <;> simp [h]
theorem look_isSome (os : Obs) (id : ByteArray) : (look os id).isSome = isAt os id := by
  unfold look
  cases isAt os id <;> simp
theorem look_mem : ∀ {os : Obs} (hr : Rise os) (z : ByteArray × JV), z ∈ os ↔ look os z.1 = some z.2
  | [], _, z => by simp [look_nil]
  | p :: os, hr, z => by
    obtain ⟨h1, h2⟩ := List.pairwise_cons.1 hr
    have ih := look_mem h2 z
    rw [look_cons, List.mem_cons]
    by_cases h : cmpN p.1 z.1 < 0
    · rw [if_pos h, ← ih]
      exact ⟨fun e => e.elim (fun e => by subst e; exact absurd rfl (cmp_ne h)) id, .inr⟩
    · rw [if_neg h]
      have hz : z ∉ os := fun hm => h (h1 z hm)
      by_cases e : p.1 = z.1
      · rw [if_pos e]
        refine ⟨fun e' => e'.elim (fun e' => by rw [e']) (fun hm => absurd hm hz), fun e' => .inl ?_⟩
        obtain ⟨a, b⟩ := z
        obtain ⟨c, d⟩ := p
        simp at e e'
        rw [e, e']
      · rw [if_neg e]
        exact ⟨fun e' => e'.elim (fun e' => absurd (by rw [e']) e) (fun hm => absurd hm hz), fun e' => by simp at e'⟩
/-- Two rising lists with the same members are the same. -/
theorem rise_ext : ∀ {l m : Obs}, Rise l → Rise m → (∀ z, z ∈ l ↔ z ∈ m) → l = m
  | [], [], _, _, _ => rfl
  | [], q :: m, _, _, h => by have := (h q).2 (by simp); simp at this
  | p :: l, [], _, _, h => by have := (h p).1 (by simp); simp at this
  | p :: l, q :: m, hl, hm, h => by
    obtain ⟨l1, l2⟩ := List.pairwise_cons.1 hl
    obtain ⟨m1, m2⟩ := List.pairwise_cons.1 hm
    have e : p = q := by
      by_cases e : p = q
      · exact e
      · have a : p ∈ m := (List.mem_cons.1 ((h p).1 (by simp))).resolve_left e
        have b : q ∈ l := (List.mem_cons.1 ((h q).2 (by simp))).resolve_left (Ne.symm e)
        have c := cmp_trans (l1 q b) (m1 p a)
        rw [cmpN_self] at c
        omega
    subst e
    have hne : ∀ z, (z ∈ l → z ≠ p) ∧ (z ∈ m → z ≠ p) := fun z => ⟨fun hz e => by subst e; exact cmp_ne (l1 z hz) rfl, fun hz e => by subst e; exact cmp_ne (m1 z hz) rfl⟩
    rw [rise_ext l2 m2 fun z => ⟨fun hz => (List.mem_cons.1 ((h z).1 (List.mem_cons_of_mem _ hz))).resolve_left ((hne z).1 hz), fun hz => (List.mem_cons.1 ((h z).2 (List.mem_cons_of_mem _ hz))).resolve_left ((hne z).2 hz)⟩]
theorem look_ext {l m : Obs} (hl : Rise l) (hm : Rise m) (h : ∀ id, look l id = look m id) : l = m :=
  rise_ext hl hm fun z => by rw [look_mem hl, look_mem hm, h]

def putL (os : Obs) (id : ByteArray) (v : JV) : Obs := if isAt os id = true then os.set (lowN os id) (id, v) else os.take (lowN os id) ++ (id, v) :: os.drop (lowN os id)
def delL (os : Obs) (id : ByteArray) : Obs := if isAt os id = true then os.take (lowN os id) ++ os.drop (lowN os id + 1) else os
theorem putL_nil (id : ByteArray) (v : JV) : putL [] id v = [(id, v)] := by simp [putL, isAt, lowN]
theorem putL_cons (p : ByteArray × JV) (os : Obs) (id : ByteArray) (v : JV) : putL (p :: os) id v = if cmpN p.1 id < 0 then p :: putL os id v else if p.1 = id then (id, v) :: os else (id, v) :: p :: os := by
  unfold putL
  rw [isAt_cons, lowN_cons]
  by_cases h : cmpN p.1 id < 0
  · simp only [if_pos h]
    by_cases e : isAt os id = true <;> simp [e]
  · simp only [if_neg h]
    by_cases e : p.1 = id <;> simp [e]
theorem delL_nil (id : ByteArray) : delL [] id = [] := by simp [delL]
theorem delL_cons (p : ByteArray × JV) (os : Obs) (id : ByteArray) : delL (p :: os) id = if cmpN p.1 id < 0 then p :: delL os id else if p.1 = id then os else p :: os := by
  unfold delL
  rw [isAt_cons, lowN_cons]
  by_cases h : cmpN p.1 id < 0
  · simp only [if_pos h]
    by_cases e : isAt os id = true <;> simp [e]
  · simp only [if_neg h]
    by_cases e : p.1 = id <;> simp [e]
theorem putL_mem : ∀ {os : Obs} (hr : Rise os) (id : ByteArray) (v : JV) (z : ByteArray × JV), z ∈ putL os id v ↔ z = (id, v) ∨ z ∈ os ∧ z.1 ≠ id
  | [], _, id, v, z => by simp [putL_nil]
  | p :: os, hr, id, v, z => by
    obtain ⟨h1, h2⟩ := List.pairwise_cons.1 hr
    have ih := putL_mem h2 id v z
    rw [putL_cons]
    by_cases h : cmpN p.1 id < 0
    · have hp := cmp_ne h
      simp only [if_pos h, List.mem_cons, ih]
      constructor
      · rintro (rfl | h | h)
        · exact .inr ⟨.inl rfl, hp⟩
        · exact .inl h
        · exact .inr ⟨.inr h.1, h.2⟩
      · rintro (h | ⟨rfl | h, h3⟩)
        · exact .inr (.inl h)
        · exact .inl rfl
        · exact .inr (.inr ⟨h, h3⟩)
    · simp only [if_neg h]
      by_cases e : p.1 = id
      · have hn : ∀ y ∈ os, y.1 ≠ id := fun y hy e2 => cmp_ne (h1 y hy) (by rw [e, e2])
        simp only [if_pos e, List.mem_cons]
        constructor
        · rintro (h | h)
          · exact .inl h
          · exact .inr ⟨.inr h, hn z h⟩
        · rintro (h | ⟨rfl | h, h3⟩)
          · exact .inl h
          · exact absurd e h3
          · exact .inr h
      · have hlt : cmpN id p.1 < 0 := by
          rcases cmp_tri p.1 id with h3 | h3 | h3
          · exact absurd h3 h
          · exact absurd h3 e
          · exact h3
        have hn : ∀ y ∈ os, y.1 ≠ id := fun y hy e2 => cmp_ne (cmp_trans hlt (h1 y hy)) e2.symm
        simp only [if_neg e, List.mem_cons]
        constructor
        · rintro (h | rfl | h)
          · exact .inl h
          · exact .inr ⟨.inl rfl, e⟩
          · exact .inr ⟨.inr h, hn z h⟩
        · rintro (h | ⟨h, _⟩)
          · exact .inl h
          · exact .inr h
theorem putL_rise : ∀ {os : Obs} (hr : Rise os) (id : ByteArray) (v : JV), Rise (putL os id v)
  | [], _, id, v => by rw [putL_nil]; exact List.pairwise_singleton _ _
  | p :: os, hr, id, v => by
    obtain ⟨h1, h2⟩ := List.pairwise_cons.1 hr
    have ih := putL_rise h2 id v
    rw [putL_cons]
    by_cases h : cmpN p.1 id < 0
    · rw [if_pos h]
      refine List.pairwise_cons.2 ⟨fun z hz => ?_, ih⟩
      rcases (putL_mem h2 id v z).1 hz with rfl | ⟨hz, _⟩
      · exact h
      · exact h1 z hz
    · rw [if_neg h]
      by_cases e : p.1 = id
      · rw [if_pos e]
        exact List.pairwise_cons.2 ⟨fun z hz => by have := h1 z hz; rw [e] at this; exact this, h2⟩
      · have hlt : cmpN id p.1 < 0 := by
          rcases cmp_tri p.1 id with h3 | h3 | h3
          · exact absurd h3 h
          · exact absurd h3 e
          · exact h3
        rw [if_neg e]
        refine List.pairwise_cons.2 ⟨fun z hz => ?_, hr⟩
        rcases List.mem_cons.1 hz with rfl | hz
        · exact hlt
        · exact cmp_trans hlt (h1 z hz)
theorem delL_mem : ∀ {os : Obs} (hr : Rise os) (id : ByteArray) (z : ByteArray × JV), z ∈ delL os id ↔ z ∈ os ∧ z.1 ≠ id
  | [], _, id, z => by simp [delL_nil]
  | p :: os, hr, id, z => by
    obtain ⟨h1, h2⟩ := List.pairwise_cons.1 hr
    have ih := delL_mem h2 id z
    rw [delL_cons]
    by_cases h : cmpN p.1 id < 0
    · have hp := cmp_ne h
      simp only [if_pos h, List.mem_cons, ih]
      constructor
      · rintro (rfl | h)
        · exact ⟨.inl rfl, hp⟩
        · exact ⟨.inr h.1, h.2⟩
      · rintro ⟨rfl | h, h3⟩
        · exact .inl rfl
        · exact .inr ⟨h, h3⟩
    · simp only [if_neg h]
      by_cases e : p.1 = id
      · have hn : ∀ y ∈ os, y.1 ≠ id := fun y hy e2 => cmp_ne (h1 y hy) (by rw [e, e2])
        simp only [if_pos e, List.mem_cons]
        constructor
        · intro h
          exact ⟨.inr h, hn z h⟩
        · rintro ⟨rfl | h, h3⟩
          · exact absurd e h3
          · exact h
      · have hlt : cmpN id p.1 < 0 := by
          rcases cmp_tri p.1 id with h3 | h3 | h3
          · exact absurd h3 h
          · exact absurd h3 e
          · exact h3
        have hn : ∀ y ∈ os, y.1 ≠ id := fun y hy e2 => cmp_ne (cmp_trans hlt (h1 y hy)) e2.symm
        simp only [if_neg e, List.mem_cons]
        constructor
        · rintro (rfl | h)
          · exact ⟨.inl rfl, e⟩
          · exact ⟨.inr h, hn z h⟩
        · rintro ⟨h, _⟩
          exact h
theorem delL_sub : ∀ (os : Obs) (id : ByteArray), (delL os id).Sublist os
  | [], id => by rw [delL_nil]; exact List.Sublist.refl _
  | p :: os, id => by
    rw [delL_cons]
    by_cases h : cmpN p.1 id < 0
    · rw [if_pos h]
      exact (delL_sub os id).cons_cons p
    · rw [if_neg h]
      by_cases e : p.1 = id
      · rw [if_pos e]
        exact List.sublist_cons_self _ _
      · rw [if_neg e]
        exact List.Sublist.refl _
theorem delL_rise {os : Obs} (hr : Rise os) (id : ByteArray) : Rise (delL os id) := hr.sublist (delL_sub os id)
/-- What is looked up after an act. -/
theorem look_of {os ns : Obs} (hr : Rise os) (hn : Rise ns) {id : ByteArray} (h : ∀ v, (id, v) ∈ ns ↔ (id, v) ∈ os) : look ns id = look os id := by
  cases e : look os id with
  | some v => exact (look_mem hn (id, v)).1 ((h v).2 ((look_mem hr (id, v)).2 e))
  | none =>
    cases e2 : look ns id with
    | none => rfl
    | some v =>
      have := (look_mem hr (id, v)).1 ((h v).1 ((look_mem hn (id, v)).2 e2))
      rw [e] at this
      simp at this
theorem look_put {os : Obs} (hr : Rise os) (id : ByteArray) (v : JV) : look (putL os id v) id = some v := (look_mem (putL_rise hr id v) (id, v)).1 ((putL_mem hr id v _).2 (.inl rfl))
theorem look_put_ne {os : Obs} (hr : Rise os) {id k : ByteArray} (v : JV) (hk : k ≠ id) : look (putL os id v) k = look os k :=
  look_of hr (putL_rise hr id v) fun u => by
    rw [putL_mem hr]
    exact ⟨fun h => h.elim (fun e => absurd (congrArg Prod.fst e) hk) (·.1), fun h => .inr ⟨h, hk⟩⟩
theorem look_del {os : Obs} (hr : Rise os) (id : ByteArray) : look (delL os id) id = none := by
  cases e : look (delL os id) id with
  | none => rfl
  | some v =>
    have := (delL_mem hr id (id, v)).1 ((look_mem (delL_rise hr id) (id, v)).2 e)
    exact absurd rfl this.2
theorem look_del_ne {os : Obs} (hr : Rise os) {id k : ByteArray} (hk : k ≠ id) : look (delL os id) k = look os k :=
  look_of hr (delL_rise hr id) fun u => by
    rw [delL_mem hr]
    exact ⟨(·.1), fun h => ⟨h, hk⟩⟩
end Go.Proofs.YtanemojiaahbgaaGreatDoor
end

section
/- An act, if it goes: what it makes of a box; acts of unlike ids in either order. -/
set_option linter.unusedSimpArgs false
set_option linter.unusedVariables false
namespace Go.Proofs.YtanemojiaahbgaaGreatDoor
open Go.RowKit Go.OpenShut

/-- What an act answers. -/
noncomputable def actB (b : BoxD) (k : Int) (id : ByteArray) (v : JV) : BoxD × Int := if k = 1 then putB b id v else if k = 2 then dropB b id else (b, 81)
noncomputable def doesB (b : BoxD) (k : Int) (id : ByteArray) (v : JV) : BoxD := if (actB b k id v).2 = 0 then (actB b k id v).1 else b
open Classical in
noncomputable def cnt (k : Int) (v : JV) (o : Option JV) : Int :=
  if k = 1 then (match o with | some u => if SameT u v then 0 else 1 | none => 1) else if k = 2 then (match o with | some _ => 1 | none => 0) else 0
open Classical in
noncomputable def newLook (k : Int) (v : JV) (o : Option JV) : Option JV :=
  if k = 1 then (match o with | some u => if SameT u v then some u else some v | none => some v) else if k = 2 then none else o
structure DoesTo (b d : BoxD) (k : Int) (id : ByteArray) (v : JV) : Prop where
  rise : Rise d.objs
  seq : d.seq = b.seq + cnt k v (look b.objs id)
  at_ : look d.objs id = newLook k v (look b.objs id)
  other : ∀ j, j ≠ id → look d.objs j = look b.objs j
  told : ∀ j, j ≠ id → toldB d.trail j = true → toldB b.trail j = true
theorem told_chg {b : BoxD} {os : Obs} {id : ByteArray} {what : Int} : ∀ j, j ≠ id → toldB (chgB b os id what).trail j = true → toldB b.trail j = true := by
  intro j hj h
  unfold toldB chgB addL at h
  obtain ⟨e, he, hd⟩ := List.any_eq_true.1 h
  have hm := List.mem_of_mem_drop he
  simp at hd
  rcases List.mem_append.1 hm with h1 | h1
  · exact List.any_eq_true.2 ⟨e, h1, by simpa using hd⟩
  · simp at h1
    subst h1
    exact absurd hd.symm hj
theorem chg_to {b : BoxD} {os : Obs} {k : Int} {id : ByteArray} {v : JV} {what : Int} (hr : Rise os) (h1 : cnt k v (look b.objs id) = 1) (h2 : look os id = newLook k v (look b.objs id)) (h3 : ∀ j, j ≠ id → look os j = look b.objs j) :
    DoesTo b (chgB b os id what) k id v := ⟨hr, by rw [h1]; rfl, h2, h3, told_chg⟩
theorem same_to {b : BoxD} {k : Int} {id : ByteArray} {v : JV} (hr : Rise b.objs) (h1 : cnt k v (look b.objs id) = 0) (h2 : look b.objs id = newLook k v (look b.objs id)) : DoesTo b b k id v :=
  ⟨hr, by rw [h1]; omega, h2, fun _ _ => rfl, fun _ _ h => h⟩
theorem doesB_to {b : BoxD} {k : Int} {id : ByteArray} {v : JV} (hr : Rise b.objs) (hs : b.seq < 9007199254740991) (hg : isAt b.objs id = true ∨ toldB b.trail id = false) : DoesTo b (doesB b k id v) k id v := by
  have hns : ¬ 9007199254740991 ≤ b.seq := by omega
  unfold doesB actB
  by_cases k1 : k = 1
  · subst k1
    rw [if_pos rfl]
    unfold putB
    by_cases ha : isAt b.objs id = true
    · have hl : look b.objs id = some (oldV b.objs id) := by unfold look; rw [if_pos ha]
      rw [if_pos ha]
      by_cases hsm : SameT (oldV b.objs id) v
      · rw [if_pos hsm]
        simp only [if_pos]
        refine same_to hr ?_ ?_ <;> rw [hl] <;> simp [cnt, newLook, hsm]
      · rw [if_neg hsm, if_neg hns]
        simp only [if_pos]
        have e : b.objs.set (lowN b.objs id) (id, v) = putL b.objs id v := by unfold putL; rw [if_pos ha]
        rw [e]
        refine chg_to (putL_rise hr id v) ?_ ?_ (fun j hj => look_put_ne hr v hj)
        · rw [hl]
          simp [cnt, hsm]
        · rw [hl, look_put hr]
          simp [newLook, hsm]
    · have hl : look b.objs id = none := by unfold look; rw [if_neg ha]
      have ht : ¬ toldB b.trail id = true := by rcases hg with h | h <;> simp_all
      rw [if_neg ha, if_neg ht, if_neg hns]
      simp only [if_pos]
      have e : b.objs.take (lowN b.objs id) ++ (id, v) :: b.objs.drop (lowN b.objs id) = putL b.objs id v := by unfold putL; rw [if_neg ha]
      rw [e]
      refine chg_to (putL_rise hr id v) ?_ ?_ (fun j hj => look_put_ne hr v hj)
      · rw [hl]
        simp [cnt]
      · rw [hl, look_put hr]
        simp [newLook]
  · rw [if_neg k1]
    by_cases k2 : k = 2
    · subst k2
      rw [if_pos rfl]
      unfold dropB
      by_cases ha : isAt b.objs id = true
      · have hl : look b.objs id = some (oldV b.objs id) := by unfold look; rw [if_pos ha]
        rw [if_neg (show ¬ isAt b.objs id = false by rw [ha]; decide), if_neg hns]
        simp only [if_pos]
        have e : b.objs.take (lowN b.objs id) ++ b.objs.drop (lowN b.objs id + 1) = delL b.objs id := by unfold delL; rw [if_pos ha]
        rw [e]
        refine chg_to (delL_rise hr id) ?_ ?_ (fun j hj => look_del_ne hr hj)
        · rw [hl]
          simp [cnt]
        · rw [look_del hr]
          simp [newLook]
      · have hl : look b.objs id = none := by unfold look; rw [if_neg ha]
        rw [if_pos (show isAt b.objs id = false by simpa using ha)]
        simp only [if_neg (show ¬ (81 : Int) = 0 by decide)]
        refine same_to hr ?_ ?_ <;> rw [hl] <;> simp [cnt, newLook]
    · rw [if_neg k2]
      simp only [if_neg (show ¬ (81 : Int) = 0 by decide)]
      refine same_to hr ?_ ?_ <;> simp [cnt, newLook, k1, k2]
theorem cnt_le (k : Int) (v : JV) (o : Option JV) : cnt k v o ≤ 1 := by
  unfold cnt
  split
  · cases o with
    | none => show (1 : Int) ≤ 1; decide
    | some u => by_cases h : SameT u v <;> simp [h]
  · split
    · cases o with
      | none => show (0 : Int) ≤ 1; decide
      | some u => show (1 : Int) ≤ 1; decide
    · decide
/-- What is there or not yet told of. -/
def NotGone (b : BoxD) (id : ByteArray) : Prop := isAt b.objs id = true ∨ toldB b.trail id = false
theorem DoesTo.notGone {b d : BoxD} {k : Int} {id j : ByteArray} {v : JV} (h : DoesTo b d k id v) (hj : j ≠ id) (hg : NotGone b j) : NotGone d j := by
  rcases hg with hg | hg
  · left
    rw [← look_isSome, h.other j hj, look_isSome, hg]
  · right
    cases e : toldB d.trail j with
    | false => rfl
    | true => rw [h.told j hj e] at hg; exact absurd hg (by decide)
theorem order_law {b : BoxD} {k1 k2 : Int} {i1 i2 : ByteArray} {v1 v2 : JV} (hr : Rise b.objs) (hs : b.seq ≤ 1125899906842624) (hne : i1 ≠ i2) (h1 : NotGone b i1) (h2 : NotGone b i2) :
    (doesB (doesB b k1 i1 v1) k2 i2 v2).seq = (doesB (doesB b k2 i2 v2) k1 i1 v1).seq ∧ (doesB (doesB b k1 i1 v1) k2 i2 v2).objs = (doesB (doesB b k2 i2 v2) k1 i1 v1).objs := by
  have a1 := doesB_to (k := k1) (v := v1) hr (by omega) h1
  have a2 := doesB_to (k := k2) (v := v2) hr (by omega) h2
  have c1 := cnt_le k1 v1 (look b.objs i1)
  have c2 := cnt_le k2 v2 (look b.objs i2)
  have s1 := a1.seq
  have s2 := a2.seq
  have b2 := doesB_to (k := k2) (v := v2) a1.rise (by omega) (a1.notGone (Ne.symm hne) h2)
  have b1 := doesB_to (k := k1) (v := v1) a2.rise (by omega) (a2.notGone hne h1)
  have t1 := b1.seq
  have t2 := b2.seq
  rw [a2.other i1 hne] at t1
  rw [a1.other i2 (Ne.symm hne)] at t2
  refine ⟨by omega, look_ext b2.rise b1.rise fun j => ?_⟩
  by_cases e1 : j = i1
  · subst e1
    rw [b2.other j hne, a1.at_, b1.at_, a2.other j hne]
  · by_cases e2 : j = i2
    · subst e2
      rw [b2.at_, a1.other j e1, b1.other j e1, a2.at_]
    · rw [b2.other j e2, a1.other j e1, b1.other j e1, a2.other j e2]
theorem addF_wf {l : List En} {floor keep : Int} {e : En} (hl : ∀ x ∈ l, x.ok) (he : e.ok) (hf : (Lit.int .i64 floor).wf = true) : (Lit.int .i64 (addF l floor keep e)).wf = true := by
  unfold addF
  split
  · exact hf
  · cases hx : (l ++ [e])[addGone l.length keep - 1]? with
    | none => decide
    | some x =>
      have hm := List.mem_of_getElem? hx
      rcases List.mem_append.1 hm with h | h
      · exact (hl x h).1
      · simp at h
        subst h
        exact he.1
theorem chgB_ok {b : BoxD} {os : Obs} {id : ByteArray} {what : Int} (ob : b.Ok) (hl : ∀ x ∈ b.trail, x.ok) (hs : b.seq < 9007199254740991) (ht : b.trail.length ≤ 1000) (hid : id.size ≤ 140737488351232) (hw : (Lit.int .i64 what).wf = true) (h1 : os.length ≤ 1466015503658)
    (h2 : ∀ p ∈ os, p.1.size ≤ 140737488351232 ∧ p.2.Ok) : (chgB b os id what).Ok := by
  have hsw := wf_bounds ob.seq
  have hq : (Lit.int .i64 (b.seq + 1)).wf = true := wf_of (by omega) (by omega)
  have he : En.ok ⟨b.seq + 1, id, what⟩ := ⟨hq, (show id.size ≤ maxLen by unfold maxLen; omega), hw⟩
  refine ⟨h1, h2, ?_, hq, addF_wf hl he ob.floor, ob.keep⟩
  show ((b.trail ++ [_]).drop _).length ≤ _
  rw [List.length_drop, List.length_append]
  simp
  omega
theorem chgB_trail (b : BoxD) (os : Obs) (id : ByteArray) (what : Int) : (chgB b os id what).trail.length ≤ b.trail.length + 1 := by
  show ((b.trail ++ [_]).drop _).length ≤ _
  rw [List.length_drop, List.length_append]
  simp
theorem doesB_ok {b : BoxD} {k : Int} {id : ByteArray} {v : JV} (ob : b.Ok) (hl : ∀ x ∈ b.trail, x.ok) (ho : b.objs.length ≤ 1000) (ht : b.trail.length ≤ 1000) (hid : id.size ≤ 140737488351232) (ov : v.Ok) :
    (doesB b k id v).Ok ∧ (doesB b k id v).objs.length ≤ b.objs.length + 1 ∧ (doesB b k id v).trail.length ≤ b.trail.length + 1 := by
  have base : b.Ok ∧ b.objs.length ≤ b.objs.length + 1 ∧ b.trail.length ≤ b.trail.length + 1 := ⟨ob, by omega, by omega⟩
  have hlow := lowN_le b.objs id
  unfold doesB actB
  by_cases k1 : k = 1
  · subst k1
    rw [if_pos rfl]
    unfold putB
    by_cases ha : isAt b.objs id = true
    · rw [if_pos ha]
      by_cases hsm : SameT (oldV b.objs id) v
      · rw [if_pos hsm]
        simp only [if_pos]
        exact base
      · rw [if_neg hsm]
        by_cases hns : 9007199254740991 ≤ b.seq
        · rw [if_pos hns]
          simp only [if_neg (show ¬ (180 : Int) = 0 by decide)]
          exact base
        · rw [if_neg hns]
          simp only [if_pos]
          refine ⟨chgB_ok ob hl (by omega) ht hid (by decide) (by simp; omega) (fun p hp => ?_), ?_, chgB_trail _ _ _ _⟩
          · rcases List.mem_or_eq_of_mem_set hp with h | rfl
            · exact ob.each p h
            · exact ⟨hid, ov⟩
          · show (b.objs.set _ _).length ≤ _
            simp
    · rw [if_neg ha]
      by_cases ht2 : toldB b.trail id = true
      · rw [if_pos ht2]
        simp only [if_neg (show ¬ (181 : Int) = 0 by decide)]
        exact base
      · rw [if_neg ht2]
        by_cases hns : 9007199254740991 ≤ b.seq
        · rw [if_pos hns]
          simp only [if_neg (show ¬ (180 : Int) = 0 by decide)]
          exact base
        · rw [if_neg hns]
          simp only [if_pos]
          refine ⟨chgB_ok ob hl (by omega) ht hid (by decide) (by simp; omega) (fun p hp => ?_), ?_, chgB_trail _ _ _ _⟩
          · rcases List.mem_append.1 hp with h | h
            · exact ob.each p (List.mem_of_mem_take h)
            · rcases List.mem_cons.1 h with rfl | h
              · exact ⟨hid, ov⟩
              · exact ob.each p (List.mem_of_mem_drop h)
          · show (b.objs.take _ ++ _ :: b.objs.drop _).length ≤ _
            simp
            omega
  · rw [if_neg k1]
    by_cases k2 : k = 2
    · subst k2
      rw [if_pos rfl]
      unfold dropB
      by_cases ha : isAt b.objs id = false
      · rw [if_pos ha]
        simp only [if_neg (show ¬ (81 : Int) = 0 by decide)]
        exact base
      · rw [if_neg ha]
        by_cases hns : 9007199254740991 ≤ b.seq
        · rw [if_pos hns]
          simp only [if_neg (show ¬ (180 : Int) = 0 by decide)]
          exact base
        · rw [if_neg hns]
          simp only [if_pos]
          refine ⟨chgB_ok ob hl (by omega) ht hid (by decide) (by simp; omega) (fun p hp => ?_), ?_, chgB_trail _ _ _ _⟩
          · rcases List.mem_append.1 hp with h | h
            · exact ob.each p (List.mem_of_mem_take h)
            · exact ob.each p (List.mem_of_mem_drop h)
          · show (b.objs.take _ ++ b.objs.drop _).length ≤ _
            simp
            omega
    · rw [if_neg k2]
      simp only [if_neg (show ¬ (81 : Int) = 0 by decide)]
      exact base
theorem doesB_trail {b : BoxD} {k : Int} {id : ByteArray} {v : JV} (ob : b.Ok) (hl : ∀ x ∈ b.trail, x.ok) (hid : id.size ≤ 140737488351232) : ∀ x ∈ (doesB b k id v).trail, x.ok := by
  have hsw := wf_bounds ob.seq
  have key : ∀ (os : Obs) (what : Int), (Lit.int .i64 what).wf = true → ¬ 9007199254740991 ≤ b.seq → ∀ x ∈ (chgB b os id what).trail, x.ok := fun os what hw hs =>
    addL_oks hl ⟨wf_of (by show -9223372036854775808 ≤ b.seq + 1; omega) (by show b.seq + 1 ≤ _; omega), (show id.size ≤ maxLen by unfold maxLen; omega), hw⟩
  have act : (actB b k id v).2 = 0 → ∀ x ∈ (actB b k id v).1.trail, x.ok := by
    unfold actB putB dropB
    intro h
    by_cases k1 : k = 1
    · simp only [if_pos k1] at h ⊢
      by_cases ha : isAt b.objs id = true
      · simp only [if_pos ha] at h ⊢
        by_cases hsm : SameT (oldV b.objs id) v
        · simp only [if_pos hsm]; exact hl
        · simp only [if_neg hsm] at h ⊢
          by_cases hs : 9007199254740991 ≤ b.seq
          · simp only [if_pos hs] at h; exact absurd h (by decide)
          · simp only [if_neg hs]; exact key _ _ (by decide) hs
      · simp only [if_neg ha] at h ⊢
        by_cases ht : toldB b.trail id = true
        · simp only [if_pos ht] at h; exact absurd h (by decide)
        · simp only [if_neg ht] at h ⊢
          by_cases hs : 9007199254740991 ≤ b.seq
          · simp only [if_pos hs] at h; exact absurd h (by decide)
          · simp only [if_neg hs]; exact key _ _ (by decide) hs
    · simp only [if_neg k1] at h ⊢
      by_cases k2 : k = 2
      · simp only [if_pos k2] at h ⊢
        by_cases ha : isAt b.objs id = false
        · simp only [if_pos ha] at h; exact absurd h (by decide)
        · simp only [if_neg ha] at h ⊢
          by_cases hs : 9007199254740991 ≤ b.seq
          · simp only [if_pos hs] at h; exact absurd h (by decide)
          · simp only [if_neg hs]; exact key _ _ (by decide) hs
      · simp only [if_neg k2] at h; exact absurd h (by decide)
  unfold doesB
  by_cases h : (actB b k id v).2 = 0
  · rw [if_pos h]; exact act h
  · rw [if_neg h]; exact hl
end Go.Proofs.YtanemojiaahbgaaGreatDoor
end

section
/- cardboxref18.Told and the law's gone, walked. -/
set_option linter.unusedSimpArgs false
set_option linter.unusedVariables false
namespace Go.Proofs.YtanemojiaahbgaaGreatDoor
open Go.RowKit Go.OpenShut

theorem findJ_isSome {os : Obs} (hr : Rise os) (id : ByteArray) : (findJ os id).isSome = isAt os id := by
  rw [← look_isSome]
  cases e : look os id with
  | some v =>
    have h := (look_mem hr (id, v)).2 e
    unfold findJ
    rw [Option.isSome_map]
    show _ = true
    rw [List.find?_isSome]
    exact ⟨_, h, by simp⟩
  | none =>
    cases e2 : findJ os id with
    | none => rfl
    | some v =>
      exfalso
      unfold findJ at e2
      obtain ⟨p, hp, hv⟩ := Option.map_eq_some_iff.1 e2
      have h1 := List.find?_some hp
      have h2 := List.mem_of_find?_eq_some hp
      have h3 := (look_mem hr p).1 h2
      simp at h1
      rw [h1, e] at h3
      simp at h3
end Go.Proofs.YtanemojiaahbgaaGreatDoor
end

section
/- Whether a box is right, told by the last entry of each id. -/
set_option linter.unusedSimpArgs false
set_option linter.unusedVariables false
namespace Go.Proofs.YtanemojiaahbgaaGreatDoor
open Go.RowKit Go.OpenShut

theorem lastW_fold (id : ByteArray) : ∀ (l : List En) (a : Int), l.foldl (fun a e => if e.id = id then e.what else a) a = if toldB l id = true then lastW l id else a
  | [], a => by simp [toldB]
  | e :: r, a => by
    have h1 := lastW_fold id r (if e.id = id then e.what else a)
    have h2 := lastW_fold id r (if e.id = id then e.what else 0)
    unfold lastW at h1 h2 ⊢
    rw [List.foldl_cons, List.foldl_cons, h1, h2]
    unfold toldB
    rw [List.any_cons]
    by_cases h3 : r.any (fun e => decide (e.id = id)) = true
    · simp [h3, toldB]
    · by_cases h4 : e.id = id <;> simp [h3, h4, toldB]
theorem lastW_cons (e : En) (r : List En) (id : ByteArray) : lastW (e :: r) id = if toldB r id = true then lastW r id else if e.id = id then e.what else 0 := by
  unfold lastW
  rw [List.foldl_cons, lastW_fold]
  rfl
theorem since_told {sq : Int} {l : List En} {p : Pa} (hp : p ∈ sinceL sq l) : toldB l p.id = true := by
  obtain ⟨y, hy, h, _⟩ := (sinceL_id sq p.id l).1 ⟨p, hp, rfl⟩
  exact List.any_eq_true.2 ⟨y, hy, by simpa using h⟩
theorem upd_isb (e : En) (p : Pa) : (updP e p).isb = p.isb := by unfold updP; split <;> rfl
theorem since_isb (sq : Int) : ∀ l : List En, (∀ e ∈ l, sq < e.seq) → ∀ p ∈ sinceL sq l, p.isb = (lastW l p.id != 3)
  | [], _, p, hp => by simp [sinceL] at hp
  | e :: r, h, p, hp => by
    have ih := since_isb sq r (fun x hx => h x (List.mem_cons_of_mem _ hx))
    have he := h e (by simp)
    rw [sinceL_cons, if_neg (by omega)] at hp
    rw [lastW_cons]
    split at hp
    · obtain ⟨q, hq, rfl⟩ := List.mem_map.1 hp
      rw [upd_isb, upd_id, if_pos (since_told hq)]
      exact ih q hq
    · rename_i hk
      rcases List.mem_cons.1 hp with rfl | hp
      · have hn : ¬ toldB r (newP e).id = true := by
          intro ht
          obtain ⟨y, hy, hi⟩ := List.any_eq_true.1 ht
          obtain ⟨q, hq, e2⟩ := (sinceL_id sq e.id r).2 ⟨y, hy, (by simpa using hi : y.id = (newP e).id), h y (List.mem_cons_of_mem _ hy)⟩
          exact hk (List.any_eq_true.2 ⟨q, hq, by simpa using e2⟩)
        rw [if_neg hn, if_pos (show e.id = (newP e).id from rfl)]
        rfl
      · rw [if_pos (since_told hp)]
        exact ih p hp
theorem right_seq {l : List En} {floor seq : Int} (h : rightB l floor seq = true) : ∀ e ∈ l, floor < e.seq := by
  intro e he
  obtain ⟨k, hk⟩ := List.getElem?_of_mem he
  unfold rightB at h
  simp only [Bool.and_eq_true, List.all_eq_true, List.mem_range] at h
  have := h.2 k (List.getElem?_eq_some_iff.1 hk).1
  rw [okAt_of hk] at this
  simp only [Bool.and_eq_true, beq_iff_eq] at this
  omega
/-- A box is right, told by the last entry of each id. -/
def RightQ (b : BoxD) : Prop := Rising b.objs ∧ 0 ≤ b.keep ∧ b.keep ≤ 1000 ∧ (b.trail.length : Int) ≤ b.keep ∧ rightB b.trail b.floor b.seq = true ∧ ∀ e ∈ b.trail, (findJ b.objs e.id).isSome = (lastW b.trail e.id != 3)
theorem rightBx_iff (b : BoxD) : RightBx b ↔ RightQ b := by
  unfold RightBx RightQ
  constructor
  · rintro ⟨h1, h2, h3, h4, h5, h6⟩
    refine ⟨h1, h2, h3, h4, h5, fun e he => ?_⟩
    rw [findJ_isSome (rise_iff.1 h1)]
    obtain ⟨p, hp, hi⟩ := (sinceL_id b.floor e.id b.trail).2 ⟨e, he, rfl, right_seq h5 e he⟩
    rw [← hi, h6 p hp]
    exact since_isb b.floor b.trail (right_seq h5) p hp
  · rintro ⟨h1, h2, h3, h4, h5, h6⟩
    refine ⟨h1, h2, h3, h4, h5, fun p hp => ?_⟩
    obtain ⟨e, he, hi⟩ := List.any_eq_true.1 (since_told hp)
    have hi : e.id = p.id := by simpa using hi
    rw [← findJ_isSome (rise_iff.1 h1), ← hi, h6 e he, since_isb b.floor b.trail (right_seq h5) p hp, hi]
/-- New boxes are right. -/
theorem newB_right (start keep : Int) : RightBx (newB start keep) := by
  have h1 : 0 ≤ clampI start 9007199254740991 ∧ clampI start 9007199254740991 ≤ 9007199254740991 := by unfold clampI; split <;> (try split) <;> omega
  have h2 : 0 ≤ clampI keep 1000 ∧ clampI keep 1000 ≤ 1000 := by unfold clampI; split <;> (try split) <;> omega
  refine ⟨fun i j p q _ h => by simp [newB] at h, h2.1, h2.2, by simpa [newB] using h2.1, ?_, fun p hp => by simp [newB, sinceL] at hp⟩
  simp [rightB, headB, newB, h1]
end Go.Proofs.YtanemojiaahbgaaGreatDoor
end

section
set_option linter.unusedSimpArgs false
set_option linter.unusedVariables false
namespace Go.Proofs.YtanemojiaahbgaaGreatDoor
open Go.RowKit Go.OpenShut
set_option maxRecDepth 100000 in
set_option maxHeartbeats 1000000 in
theorem refRight_yes (w : World) (B : Nat) (v : Value) (l : List En) (floor seq : Int) (hv : RdE w B v l) (hf : (Lit.int .i64 floor).wf = true) (hs : (Lit.int .i64 seq).wf = true) (hh : headB l.length floor seq = true) :
    Calls Tryz.prog 73 #[v, .int .i64 floor, .int .i64 seq] w fun e w' => e = .returned (.bool (rightB l floor seq)) ∧ ∃ n, w' = w.drewN n := by
  obtain ⟨hok, p, c, rfl, hlc, hcm, hp0, hp⟩ := hv
  unfold maxLen at hcm
  have HH := Lib.hid hh
  unfold headB at hh
  simp only [decide_eq_true_eq] at hh
  obtain ⟨h1, h2, h3, h4⟩ := hh
  have hne : (seq - floor != (l.length : Int)) = false := by rw [bne_eq_false_iff_eq]; exact h4
  have hlen : (l.length : Int) ≤ 9007199254740991 := by omega
  have h5 : 0 ≤ seq := by omega
  have hok' := Lib.hid hok
  clear h4 hf hs hok
  go_enter Tryz.func73, Tryz.ntmps73
  go_wp2_with fail
  go_loopw [7] (fun i wr => ∃ k : Nat, k ≤ l.length ∧ i = .int .i64 k ∧ Hid (∀ j, j < k → okAt l floor j = true) ∧ ∃ n, wr = w.drewN n) (fun i _ => l.length - (intOf i).toNat)
  case atStart => exact ⟨0, Nat.zero_le _, rfl, fun j hj => by omega, 0, rfl⟩
  case round =>
    obtain ⟨k, hk, rfl, HO, nr, rfl⟩ := hrel
    by_cases hlt : k < l.length
    · obtain ⟨b1, o1, rfl, hb1, hc1⟩ := slice_at (k := k) hp0 hp (by omega)
      obtain ⟨x, hx, g10, g11, g12⟩ := hc1 k hlt
      have okx := get_ok hok'.out hx
      have HX := Lib.hid hx
      have bx := bounds_i64 okx.1
      have bw := bounds_i64 okx.2.2
      clear hx okx
      by_cases hbad : x.seq ≠ floor + 1 + k ∨ x.what < 1 ∨ 3 < x.what
      · have hd1 : x.seq = floor + 1 + k → 1 ≤ x.what → 3 < x.what := by omega
        have HB := Lib.hid (okAt_bad HX.out hbad)
        have hd2 : 1 ≤ x.what → x.what ≤ 3 → (x.seq != floor + 1 + k) = true := by
          intro a1 a2; rw [bne_iff_ne]; omega
        clear hbad hp hp0 hc1
        go_wp2_with fail
        all_goals (go_ret; exact ⟨ret_bool (rightB_bad hlt HB.out).symm, _, rfl⟩)
      · have hw1 : 1 ≤ x.what := by omega
        have hw3 : x.what ≤ 3 := by omega
        have hsq : (x.seq != floor + 1 + k) = false := by rw [bne_eq_false_iff_eq]; omega
        have hsE : Hid (x.seq = floor + 1 + k) := by unfold Hid; omega
        clear hbad
        go_wp2_with fail
        go_loopw [8, 9] (fun u j wr => ∃ m : Nat, m ≤ k ∧ j = .int .i64 m ∧ u = .int .i64 (lastW (l.take m) x.id) ∧ ∃ n, wr = w.drewN n) (fun _ j _ => k - (intOf j).toNat)
        case atStart => exact ⟨0, Nat.zero_le _, rfl, rfl, _, rfl⟩
        case round =>
          obtain ⟨m, hm, rfl, rfl, ni, rfl⟩ := hrel
          by_cases hmk : m < k
          · have hml : m < l.length := by omega
            obtain ⟨y, hy, gy0, gy1, gy2⟩ := hc1 m hml
            have HS := Lib.hid (lastW_take hy x.id)
            clear hy hc1
            by_cases hid : y.id = x.id
            · have hq : (y.id.toList == x.id.toList) = true := by rw [hid]; simp
              rw [if_pos hid] at HS
              clear hid
              go_wp2_with fail
              go_quiet (fail)
              go_wp2_with fail
              go_roundw
              case rel => exact ⟨m + 1, by omega, by go_num, by rw [HS.out], _, rfl⟩
              case measure => simp [intOf]; omega
            · have hq : (y.id.toList == x.id.toList) = false := by rw [toList_beq]; simp [hid]
              rw [if_neg hid] at HS
              clear hid
              go_wp2_with fail
              go_quiet (fail)
              go_wp2_with fail
              go_roundw
              case rel => exact ⟨m + 1, by omega, by go_num, by rw [HS.out], _, rfl⟩
              case measure => simp [intOf]; omega
          · obtain rfl : m = k := by omega
            have hOK := okAt_of (floor := floor) HX.out
            generalize lastW (l.take m) x.id = z at hOK ⊢
            cases hmay : mayB z x.what with
            | true =>
              rw [hmay, hsE.out] at hOK
              simp at hOK
              have HOK := Lib.hid hOK
              clear hOK
              have hnx : Hid (∀ j, j < m + 1 → okAt l floor j = true) := by
                intro j hj
                by_cases e : j = m
                · rw [e]; exact HOK.out
                · exact HO.out j (by omega)
              by_cases e1 : x.what = 1
              · have hz : (z != 0) = false := by rw [e1] at hmay; simpa [mayB] using hmay
                have q1 : (x.what == 1) = true := by rw [e1]; rfl
                have q2 : (x.what != 1) = false := by rw [e1]; rfl
                clear hmay e1
                go_wp2_with fail
                go_roundw
                case rel => exact ⟨m + 1, by omega, by go_num, hnx, _, rfl⟩
                case measure => simp [intOf]; omega
              · have hz : (z == 3) = false := by
                  have : x.what = 2 ∨ x.what = 3 := by omega
                  rcases this with e' | e' <;> rw [e'] at hmay <;> simpa [mayB] using hmay
                have q1 : (x.what == 1) = false := by simp [e1]
                have q2 : (x.what != 1) = true := by simp [e1]
                clear hmay e1
                go_wp2_with fail
                go_roundw
                case rel => exact ⟨m + 1, by omega, by go_num, hnx, _, rfl⟩
                case measure => simp [intOf]; omega
            | false =>
              rw [hmay, Bool.and_false] at hOK
              have HOK := Lib.hid (rightB_bad (seq := seq) hlt hOK)
              clear hOK
              by_cases e1 : x.what = 1
              · have hz : (z != 0) = true := by rw [e1] at hmay; simpa [mayB] using hmay
                have q1 : (x.what == 1) = true := by rw [e1]; rfl
                have q2 : (x.what != 1) = false := by rw [e1]; rfl
                clear hmay e1
                go_wp2_with fail
                go_ret
                exact ⟨ret_bool HOK.out.symm, _, rfl⟩
              · have hz : (z == 3) = true := by
                  have : x.what = 2 ∨ x.what = 3 := by omega
                  rcases this with e' | e' <;> rw [e'] at hmay <;> simpa [mayB] using hmay
                have q1 : (x.what == 1) = false := by simp [e1]
                have q2 : (x.what != 1) = true := by simp [e1]
                clear hmay e1
                go_wp2_with fail
                go_ret
                exact ⟨ret_bool HOK.out.symm, _, rfl⟩
    · obtain rfl : k = l.length := by omega
      have HR := Lib.hid (rightB_yes HH.out HO.out)
      go_wp2_with fail
      go_ret
      exact ⟨ret_bool HR.out.symm, _, rfl⟩

theorem refRight_any (w : World) (B : Nat) (v : Value) (l : List En) (floor seq : Int) (hv : RdE w B v l) (hf : (Lit.int .i64 floor).wf = true) (hs : (Lit.int .i64 seq).wf = true) :
    Calls Tryz.prog 73 #[v, .int .i64 floor, .int .i64 seq] w fun e w' => e = .returned (.bool (rightB l floor seq)) ∧ ∃ n, w' = w.drewN n := by
  cases hh : headB l.length floor seq with
  | true => exact refRight_yes w B v l floor seq hv hf hs hh
  | false => exact refRight_head w B v l floor seq hv hf hs hh
end Go.Proofs.YtanemojiaahbgaaGreatDoor
end
