import Derived.Test.YthgkgjcnmahacaaSc33
import Derived.Test.YthgkgjcnmahacaaSc16
import Derived.Test.YthgkgjcnmahacaaSc29
import Derived.Test.YthgkgjcnmahacaaSc35
import Derived.Test.YthgkgjcnmahacaaSc39
section
/- What a right trail says of an id since a number, in plain lists. -/
set_option linter.unusedSimpArgs false
set_option linter.unusedVariables false
namespace Go.Proofs.Ythgkgjcnmahacaa

theorem right_at {l : List En} {floor seq : Int} (h : rightB l floor seq = true) {k : Nat} {x : En} (hx : l[k]? = some x) : x.seq = floor + 1 + k ∧ mayB (lastW (l.take k) x.id) x.what = true := by
  unfold rightB at h
  simp only [Bool.and_eq_true, List.all_eq_true, List.mem_range] at h
  have := h.2 k (List.getElem?_eq_some_iff.1 hx).1
  rw [okAt_of hx] at this
  simpa using this
theorem may_what {w a : Int} (h : mayB w a = true) : a = 1 ∧ w = 0 ∨ (a = 2 ∨ a = 3) ∧ w ≠ 3 := by
  unfold mayB at h
  split at h
  · exact .inl ⟨by assumption, by simpa using h⟩
  · split at h
    · exact .inr ⟨by assumption, by simpa using h⟩
    · cases h
/-- The last entry of an id ahead of a place. -/
theorem lastW_is {l : List En} {id : ByteArray} {k : Nat} {x : En} (hx : l[k]? = some x) (hid : x.id = id) : ∀ j : Nat, k < j → j ≤ l.length → (∀ i y, k < i → i < j → l[i]? = some y → y.id ≠ id) → lastW (l.take j) id = x.what
  | 0, h, _, _ => by omega
  | j + 1, h, hj, hno => by
    by_cases e : k = j
    · subst e
      rw [lastW_take hx, if_pos hid]
    · obtain ⟨y, hy⟩ : ∃ y, l[j]? = some y := ⟨_, List.getElem?_eq_getElem (by omega)⟩
      rw [lastW_take hy, if_neg (hno j y (by omega) (by omega) hy)]
      exact lastW_is hx hid j (by omega) (by omega) (fun i z h1 h2 => hno i z h1 (by omega))
/-- Of two entries of one id in a right trail, the first next one. -/
theorem next_of {l : List En} {id : ByteArray} {k : Nat} : ∀ (d j : Nat) (y : En), j - k ≤ d → k < j → l[j]? = some y → y.id = id → ∃ i z, k < i ∧ i ≤ j ∧ l[i]? = some z ∧ z.id = id ∧ ∀ i' z', k < i' → i' < i → l[i']? = some z' → z'.id ≠ id
  | 0, j, y, hd, hk, _, _ => by omega
  | d + 1, j, y, hd, hk, hy, hid => by
    by_cases h : ∃ i' z', k < i' ∧ i' < j ∧ l[i']? = some z' ∧ z'.id = id
    · obtain ⟨i', z', h1, h2, h3, h4⟩ := h
      obtain ⟨i, z, g1, g2, g3⟩ := next_of d i' z' (by omega) h1 h3 h4
      exact ⟨i, z, g1, by omega, g3⟩
    · exact ⟨j, y, hk, Nat.le_refl _, hy, hid, fun i' z' g1 g2 g3 g4 => h ⟨i', z', g1, g2, g3, g4⟩⟩
theorem lastW_pos {l : List En} {floor seq : Int} (h : rightB l floor seq = true) {k : Nat} {x : En} {id : ByteArray} : ∀ {j : Nat}, k < j → l[k]? = some x → x.id = id → j < l.length → lastW (l.take j) id ≠ 0
  | 0, hk, _, _, _ => by omega
  | j + 1, hk, hx, hid, hj => by
    obtain ⟨y, hy⟩ : ∃ y, l[j]? = some y := ⟨_, List.getElem?_eq_getElem (by omega)⟩
    rw [lastW_take hy]
    split
    · rcases may_what (right_at h hy).2 with ⟨e, _⟩ | ⟨e, _⟩ <;> omega
    · rename_i hne
      by_cases e : k = j
      · subst e
        rw [hx] at hy
        cases hy
        exact absurd hid hne
      · exact lastW_pos h (by omega) hx hid (by omega)
/-- Of two entries of one id in a right trail the earlier one is no goodbye, and the later one is no beginning. -/
theorem right_two {l : List En} {floor seq : Int} (h : rightB l floor seq = true) {k j : Nat} {x y : En} (hkj : k < j) (hx : l[k]? = some x) (hy : l[j]? = some y) (hid : x.id = y.id) : x.what ≠ 3 ∧ y.what ≠ 1 := by
  have hjl := (List.getElem?_eq_some_iff.1 hy).1
  constructor
  · intro e
    obtain ⟨i, z, h1, h2, h3, h4, h5⟩ := next_of (j - k) j y (Nat.le_refl _) hkj hy hid.symm
    have hw := lastW_is hx rfl i h1 (by omega) (fun i' z' g1 g2 g3 => h5 i' z' g1 g2 g3)
    have hz := (right_at h h3).2
    rw [h4, hw, e] at hz
    rcases may_what hz with ⟨_, e'⟩ | ⟨_, e'⟩ <;> omega
  · intro e
    have hz := (right_at h hy).2
    rcases may_what hz with ⟨_, e0⟩ | ⟨e', _⟩
    · -- the last one ahead has a number that is not zero
      exact lastW_pos h hkj hx hid hjl e0
    · omega

/-! ### What the law counts -/
def nowL (was : Bool) (id : ByteArray) (sq : Int) (t : List En) : Bool := t.foldl (fun now e => if e.id = id ∧ sq < e.seq then e.what != 3 else now) was
def cntL (id : ByteArray) (sq : Int) (t : List En) : Nat := t.foldl (fun n e => if e.id = id ∧ sq < e.seq then n + 1 else n) 0
theorem nowL_take {was : Bool} {id : ByteArray} {sq : Int} {l : List En} {k : Nat} {x : En} (hx : l[k]? = some x) : nowL was id sq (l.take (k + 1)) = if x.id = id ∧ sq < x.seq then x.what != 3 else nowL was id sq (l.take k) := by
  rw [List.take_add_one, hx]
  simp [nowL]
theorem cntL_take {id : ByteArray} {sq : Int} {l : List En} {k : Nat} {x : En} (hx : l[k]? = some x) : cntL id sq (l.take (k + 1)) = if x.id = id ∧ sq < x.seq then cntL id sq (l.take k) + 1 else cntL id sq (l.take k) := by
  rw [List.take_add_one, hx]
  simp [cntL]
theorem cntL_le (id : ByteArray) (sq : Int) (l : List En) : ∀ k, k ≤ l.length → cntL id sq (l.take k) ≤ k
  | 0, _ => by simp [cntL]
  | k + 1, h => by
    obtain ⟨x, hx⟩ : ∃ x, l[k]? = some x := ⟨_, List.getElem?_eq_getElem (by omega)⟩
    have := cntL_le id sq l k (by omega)
    rw [cntL_take hx]
    split <;> omega
theorem nowL_none {was : Bool} {id : ByteArray} {sq : Int} : ∀ {l : List En}, (∀ e ∈ l, ¬ (e.id = id ∧ sq < e.seq)) → nowL was id sq l = was
  | [], _ => rfl
  | e :: r, h => by
    show nowL (if e.id = id ∧ sq < e.seq then e.what != 3 else was) id sq r = was
    rw [if_neg (h e (by simp))]
    exact nowL_none (fun x hx => h x (List.mem_cons_of_mem _ hx))
theorem nowL_true {id : ByteArray} {sq : Int} : ∀ {l : List En} {was : Bool}, (∀ e ∈ l, e.id = id ∧ sq < e.seq → e.what ≠ 3) → (was = true ∨ ∃ e ∈ l, e.id = id ∧ sq < e.seq) → nowL was id sq l = true
  | [], was, _, h => by
    rcases h with h | ⟨e, he, _⟩
    · exact h
    · cases he
  | e :: r, was, h, hh => by
    show nowL (if e.id = id ∧ sq < e.seq then e.what != 3 else was) id sq r = true
    refine nowL_true (fun x hx => h x (List.mem_cons_of_mem _ hx)) ?_
    by_cases hit : e.id = id ∧ sq < e.seq
    · rw [if_pos hit]
      exact .inl (by simpa using h e (by simp) hit)
    · rw [if_neg hit]
      rcases hh with hw | ⟨x, hx, hh⟩
      · exact .inl hw
      · rcases List.mem_cons.1 hx with rfl | hx
        · exact absurd hh hit
        · exact .inr ⟨x, hx, hh⟩
theorem nowL_append (was : Bool) (id : ByteArray) (sq : Int) (a b : List En) : nowL was id sq (a ++ b) = nowL (nowL was id sq a) id sq b := by simp [nowL]
theorem cntL_pos {id : ByteArray} {sq : Int} {l : List En} {i : Nat} {x : En} (hx : l[i]? = some x) (hh : x.id = id ∧ sq < x.seq) : ∀ k, i < k → k ≤ l.length → 0 < cntL id sq (l.take k)
  | 0, h, _ => by omega
  | k + 1, h, hk => by
    obtain ⟨y, hy⟩ : ∃ y, l[k]? = some y := ⟨_, List.getElem?_eq_getElem (by omega)⟩
    rw [cntL_take hy]
    by_cases e : i = k
    · subst e
      rw [hx] at hy
      cases hy
      rw [if_pos hh]
      omega
    · have := cntL_pos hx hh k (by omega) (by omega)
      split <;> omega

structure PastOk (l : List En) (sq : Int) (p : Pa) : Prop where
  old : ∀ (k : Nat) (x : En), l[k]? = some x → x.id = p.id → x.seq ≤ sq → (x.what != 3) = p.was
  new : ∀ (k : Nat) (x : En), l[k]? = some x → x.id = p.id → sq < x.seq → ((x.what == 1) == nowL p.was p.id sq (l.take k)) = false
  fin : nowL p.was p.id sq l = p.isb
  cnt : 0 < cntL p.id sq l

theorem past_ok {l : List En} {floor seq sq : Int} (h : rightB l floor seq = true) {i : Nat} {p : Pa} (hp : refAt sq l i = some p) : PastOk l sq p := by
  unfold refAt at hp
  cases hx : l[i]? with
  | none => rw [hx] at hp; cases hp
  | some x =>
    rw [hx] at hp
    dsimp only at hp
    by_cases h1 : x.seq ≤ sq
    · rw [if_pos h1] at hp; cases hp
    · rw [if_neg h1] at hp
      by_cases h2 : (l.drop (i + 1)).any (hitB sq x) = true
      · rw [if_pos h2] at hp; cases hp
      · rw [if_neg h2] at hp
        cases h3 : l.find? (hitB sq x) with
        | none => rw [h3] at hp; cases hp
        | some f =>
          rw [h3] at hp
          simp only [Option.map_some, Option.some.injEq] at hp
          subst hp
          obtain ⟨hfh, jf, hjf, hfe, hfno⟩ := List.find?_eq_some_iff_getElem.1 h3
          have hf : l[jf]? = some f := by rw [List.getElem?_eq_getElem hjf, hfe]
          unfold hitB at hfh
          simp only [Bool.and_eq_true, decide_eq_true_eq] at hfh
          have hil := (List.getElem?_eq_some_iff.1 hx).1
          refine ⟨fun k y hy hid hs => ?_, fun k y hy hid hs => ?_, ?_, ?_⟩
          · have a1 := (right_at h hy).1
            have a2 := (right_at h hf).1
            dsimp only at hid ⊢
            obtain ⟨b1, b2⟩ := right_two h (by omega : k < jf) hy hf (hid.trans hfh.1.symm)
            have c1 : (y.what != 3) = true := by simpa using b1
            have c2 : (f.what != 1) = true := by simpa using b2
            rw [c1, c2]
          · dsimp only at hid ⊢
            by_cases he : ∃ e ∈ l.take k, e.id = x.id ∧ sq < e.seq
            · obtain ⟨e, he1, he2⟩ := he
              obtain ⟨j, hj⟩ := List.getElem?_of_mem he1
              rw [List.getElem?_take] at hj
              split at hj
              · rename_i hjk
                rw [nowL_true (fun e' he' hh => by
                  obtain ⟨j', hj'⟩ := List.getElem?_of_mem he'
                  rw [List.getElem?_take] at hj'
                  split at hj'
                  · rename_i hjk'
                    exact (right_two h hjk' hj' hy (hh.1.trans hid.symm)).1
                  · cases hj') (.inr ⟨e, he1, he2⟩)]
                have := (right_two h hjk hj hy (he2.1.trans hid.symm)).2
                simpa using this
              · cases hj
            · rw [nowL_none (fun e he' hh => he ⟨e, he', hh⟩)]
              have hkf : k = jf := by
                rcases Nat.lt_trichotomy k jf with hlt | heq | hgt
                · have := hfno k hlt
                  have e2 : l[k]'(by omega) = y := by
                    rw [List.getElem?_eq_getElem (by omega)] at hy
                    exact Option.some.inj hy
                  rw [e2] at this
                  unfold hitB at this
                  simp [hid] at this
                  omega
                · exact heq
                · exact absurd ⟨f, List.mem_of_getElem? (by rw [List.getElem?_take_of_lt hgt]; exact hf), hfh⟩ he
              subst hkf
              rw [hf] at hy
              cases hy
              cases hb : (f.what == 1) <;> simp_all
          · dsimp only
            have hsplit : l = l.take (i + 1) ++ l.drop (i + 1) := (List.take_append_drop _ _).symm
            rw [hsplit, nowL_append, nowL_none (fun e he hh => by
              apply h2
              rw [List.any_eq_true]
              exact ⟨e, he, by unfold hitB; simpa using hh⟩), nowL_take hx, if_pos ⟨rfl, by omega⟩]
          · have := cntL_pos (sq := sq) hx ⟨rfl, by omega⟩ l.length hil (Nat.le_refl _)
            rwa [List.take_length] at this

theorem stable_rev : ∀ ys : List Pa, ys.reverse.Pairwise (fun a b => a.last < b.last) → IsStable cfP ys.reverse ys.reverse
  | [], _ => IsStable.nil
  | p :: ys, h => by
    rw [List.reverse_cons] at h ⊢
    rw [List.pairwise_append] at h
    have := IsStable.snoc cmpP (A := ys.reverse) (B := []) (by simpa using stable_rev ys h.1) (p := p) (fun a ha => by
      have := h.2.2 a (List.mem_of_getLast? ha) p (by simp)
      unfold cfP
      rw [if_neg (by omega), if_pos this]
      decide) (by simp)
    exact this
theorem stable_sorted (xs : List Pa) (h : xs.Pairwise (fun a b => a.last < b.last)) : IsStable cfP xs xs := by
  have := stable_rev xs.reverse (by rw [List.reverse_reverse]; exact h)
  rwa [List.reverse_reverse] at this
theorem refAt_last {sq : Int} {l : List En} {i : Nat} {p : Pa} (h : refAt sq l i = some p) : ∃ x, l[i]? = some x ∧ p.last = x.seq := by
  unfold refAt at h
  cases hx : l[i]? with
  | none => rw [hx] at h; cases h
  | some x =>
    rw [hx] at h
    dsimp only at h
    refine ⟨x, rfl, ?_⟩
    split at h
    · cases h
    · split at h
      · cases h
      · cases hf : l.find? (hitB sq x) with
        | none => rw [hf] at h; cases h
        | some f =>
          rw [hf] at h
          simp only [Option.map_some, Option.some.injEq] at h
          subst h
          rfl
theorem refUpTo_mem {sq : Int} {l : List En} {k : Nat} {p : Pa} (h : p ∈ refUpTo sq l k) : ∃ i, i < k ∧ refAt sq l i = some p := by
  unfold refUpTo at h
  obtain ⟨i, hi, hp⟩ := List.mem_filterMap.1 h
  exact ⟨i, List.mem_range.1 hi, hp⟩
theorem refUpTo_sorted {l : List En} {floor seq sq : Int} (h : rightB l floor seq = true) : ∀ k, (refUpTo sq l k).Pairwise (fun a b => a.last < b.last)
  | 0 => by simp [refUpTo]
  | k + 1 => by
    rw [refUpTo_succ, List.pairwise_append]
    refine ⟨refUpTo_sorted h k, ?_, fun a ha b hb => ?_⟩
    · cases refAt sq l k <;> simp
    · obtain ⟨i, hi, hp⟩ := refUpTo_mem ha
      have hb' : refAt sq l k = some b := by simpa using hb
      obtain ⟨x, hx, e1⟩ := refAt_last hp
      obtain ⟨y, hy, e2⟩ := refAt_last hb'
      have := (right_at h hx).1
      have := (right_at h hy).1
      omega
/-- What a right trail says since a number. -/
theorem since_right {l : List En} {floor seq sq : Int} (h : rightB l floor seq = true) {ys : List Pa} (hy : IsStable cfP (sinceL sq l) ys) : (∀ p ∈ ys, PastOk l sq p) ∧ ys.Pairwise (fun a b => a.last < b.last) := by
  rw [← refUpTo_all] at hy
  obtain rfl := IsStable.unique cmpP hy (stable_sorted _ (refUpTo_sorted h _))
  refine ⟨fun p hp => ?_, refUpTo_sorted h _⟩
  obtain ⟨i, _, hi⟩ := refUpTo_mem hp
  exact past_ok h hi
end Go.Proofs.Ythgkgjcnmahacaa
end

section
/- What is told round by round, in plain lists. -/
set_option linter.unusedSimpArgs false
set_option linter.unusedVariables false
namespace Go.Proofs.Ythgkgjcnmahacaa

theorem right_head' {l : List En} {floor seq : Int} (h : rightB l floor seq = true) : 0 ≤ floor ∧ floor ≤ seq ∧ seq ≤ 9007199254740991 ∧ seq - floor = l.length := by
  unfold rightB at h
  rw [Bool.and_eq_true] at h
  have h1 := h.1
  unfold headB at h1
  exact of_decide_eq_true h1
/-- What is known of an id since a number: its last entry, and its first one behind the number. -/
def PastAt (l : List En) (sq : Int) (p : Pa) : Prop := ∃ (i : Nat) (x : En) (k : Nat) (f : En), l[i]? = some x ∧ sq < x.seq ∧ (∀ (j : Nat) y, i < j → l[j]? = some y → y.id ≠ x.id) ∧ l[k]? = some f ∧ f.id = x.id ∧ sq < f.seq ∧ (∀ (j : Nat) y, j < k → l[j]? = some y → y.id = x.id → y.seq ≤ sq) ∧ p = ⟨x.id, f.what != 1, x.what != 3, x.seq⟩
theorem since_at {l : List En} {floor seq sq : Int} (h : rightB l floor seq = true) {p : Pa} : p ∈ sinceL sq l ↔ PastAt l sq p := by
  rw [← refUpTo_all]
  constructor
  · intro hp
    obtain ⟨i, _, hi⟩ := refUpTo_mem hp
    unfold refAt at hi
    cases hx : l[i]? with
    | none => rw [hx] at hi; cases hi
    | some x =>
      rw [hx] at hi
      dsimp only at hi
      split at hi
      · cases hi
      · rename_i h1
        split at hi
        · cases hi
        · rename_i h2
          cases h3 : l.find? (hitB sq x) with
          | none => rw [h3] at hi; cases hi
          | some f =>
            rw [h3] at hi
            simp only [Option.map_some, Option.some.injEq] at hi
            obtain ⟨hfh, k, hk, hfe, hfno⟩ := List.find?_eq_some_iff_getElem.1 h3
            unfold hitB at hfh
            simp only [Bool.and_eq_true, decide_eq_true_eq] at hfh
            refine ⟨i, x, k, f, hx, by omega, fun j y hij hy e => h2 ?_, by rw [List.getElem?_eq_getElem hk, hfe], hfh.1, hfh.2, fun j y hj hy e => ?_, hi.symm⟩
            · rw [List.any_eq_true]
              have a1 := (right_at h hx).1
              have a2 := (right_at h hy).1
              refine ⟨y, ?_, by unfold hitB; simp [e]; omega⟩
              exact List.mem_of_getElem? (i := j - (i + 1)) (by rw [List.getElem?_drop, show i + 1 + (j - (i + 1)) = j by omega]; exact hy)
            · have h5 := hfno j hj
              have e2 : l[j]'(by omega) = y := by
                rw [List.getElem?_eq_getElem (by omega)] at hy
                exact Option.some.inj hy
              rw [e2] at h5
              unfold hitB at h5
              simp [e] at h5
              omega
  · rintro ⟨i, x, k, f, hx, h1, h2, hf, h3, h4, h5, rfl⟩
    have hi := (List.getElem?_eq_some_iff.1 hx).1
    unfold refUpTo
    rw [List.mem_filterMap]
    refine ⟨i, List.mem_range.2 hi, ?_⟩
    unfold refAt
    rw [hx]
    dsimp only
    rw [if_neg (by omega), if_neg ?_]
    · have hfd : l.find? (hitB sq x) = some f := by
        rw [List.find?_eq_some_iff_getElem]
        refine ⟨by unfold hitB; simp [h3, h4], k, (List.getElem?_eq_some_iff.1 hf).1, (List.getElem?_eq_some_iff.1 hf).2, fun j hj => ?_⟩
        have h6 := h5 j _ hj (List.getElem?_eq_getElem (by have := (List.getElem?_eq_some_iff.1 hf).1; omega))
        unfold hitB
        simp
        exact Decidable.not_or_of_imp h6
      rw [hfd]
      rfl
    · rw [List.any_eq_true]
      rintro ⟨y, hy, he⟩
      obtain ⟨j, hj⟩ := List.getElem?_of_mem hy
      rw [List.getElem?_drop] at hj
      unfold hitB at he
      simp at he
      exact h2 _ y (by omega) hj he.1
theorem first_of {l : List En} {sq : Int} {i : Nat} {x : En} (hx : l[i]? = some x) (hs : sq < x.seq) : ∃ (k : Nat) (f : En), l[k]? = some f ∧ f.id = x.id ∧ sq < f.seq ∧ ∀ (j : Nat) y, j < k → l[j]? = some y → y.id = x.id → y.seq ≤ sq := by
  have hsome : (l.find? (hitB sq x)).isSome = true := by
    rw [List.find?_isSome]
    exact ⟨x, List.mem_of_getElem? hx, by unfold hitB; simp [hs]⟩
  obtain ⟨f, h3⟩ := Option.isSome_iff_exists.1 hsome
  obtain ⟨hfh, k, hk, hfe, hfno⟩ := List.find?_eq_some_iff_getElem.1 h3
  unfold hitB at hfh
  simp only [Bool.and_eq_true, decide_eq_true_eq] at hfh
  refine ⟨k, f, by rw [List.getElem?_eq_getElem hk, hfe], hfh.1, hfh.2, fun j y hj hy e => ?_⟩
  have h5 := hfno j hj
  have e2 : l[j]'(by omega) = y := by
    rw [List.getElem?_eq_getElem (by omega)] at hy
    exact Option.some.inj hy
  rw [e2] at h5
  unfold hitB at h5
  simp [e] at h5
  omega
theorem first_two {l : List En} {floor seq s0 s : Int} (h : rightB l floor seq = true) (hs : s0 ≤ s) {id : ByteArray} {k0 k : Nat} {f0 f : En} (h0 : l[k0]? = some f0) (e0 : f0.id = id) (h1 : l[k]? = some f) (e1 : f.id = id) (hf : s < f.seq) (hf0 : s0 < f0.seq) (hno : ∀ (j : Nat) y, j < k0 → l[j]? = some y → y.id = id → y.seq ≤ s0) (hw : (f0.what != 1) = true) : (f.what != 1) = true := by
  rcases Nat.lt_trichotomy k0 k with hlt | rfl | hgt
  · have h2 := (right_two h hlt h0 h1 (e0.trans e1.symm)).2
    simpa using h2
  · rw [h0] at h1
    cases h1
    exact hw
  · have := hno k f hgt h1 e1
    omega
/-- What is told since a later number is told since an earlier one. -/
theorem since_move {l : List En} {floor seq s0 s : Int} (h : rightB l floor seq = true) (hs : s0 ≤ s) {p : Pa} (hp : p ∈ sinceL s l) : ∃ q ∈ sinceL s0 l, q.id = p.id ∧ q.isb = p.isb ∧ q.last = p.last ∧ (q.was = true → p.was = true) := by
  obtain ⟨i, x, k, f, hx, h1, h2, hf, h3, h4, h5, rfl⟩ := (since_at h).1 hp
  obtain ⟨k0, f0, g1, g2, g3, g4⟩ := first_of (sq := s0) hx (by omega)
  exact ⟨⟨x.id, f0.what != 1, x.what != 3, x.seq⟩, (since_at h).2 ⟨i, x, k0, f0, hx, by omega, h2, g1, g2, g3, g4, rfl⟩, rfl, rfl, rfl, fun hw => first_two h hs g1 g2 hf h3 h4 g3 g4 hw⟩
theorem since_back {l : List En} {floor seq s0 s : Int} (h : rightB l floor seq = true) (hs : s0 ≤ s) {q : Pa} (hq : q ∈ sinceL s0 l) (hl : s < q.last) : ∃ p ∈ sinceL s l, p.id = q.id ∧ p.isb = q.isb ∧ p.last = q.last ∧ (q.was = true → p.was = true) := by
  obtain ⟨i, x, k0, f0, hx, h1, h2, g1, g2, g3, g4, rfl⟩ := (since_at h).1 hq
  obtain ⟨k, f, hf, h3, h4, h5⟩ := first_of (sq := s) hx hl
  exact ⟨⟨x.id, f.what != 1, x.what != 3, x.seq⟩, (since_at h).2 ⟨i, x, k, f, hx, hl, h2, hf, h3, h4, h5, rfl⟩, rfl, rfl, rfl, fun hw => first_two h hs g1 g2 hf h3 h4 g3 g4 hw⟩
theorem since_last {l : List En} {floor seq sq : Int} (h : rightB l floor seq = true) {p : Pa} (hp : p ∈ sinceL sq l) : sq < p.last ∧ p.last ≤ seq ∧ ∃ e ∈ l, e.seq = p.last := by
  obtain ⟨i, x, k, f, hx, h1, h2, hf, h3, h4, h5, rfl⟩ := (since_at h).1 hp
  have a := (right_at h hx).1
  have b := right_head' h
  have c := (List.getElem?_eq_some_iff.1 hx).1
  exact ⟨h1, by dsimp only; omega, x, List.mem_of_getElem? hx, rfl⟩
theorem nodup_inj {ys : List Pa} (h : (ys.map (·.id)).Nodup) : ∀ {p q : Pa}, p ∈ ys → q ∈ ys → p.id = q.id → p = q := by
  induction ys with
  | nil => intro p q hp; cases hp
  | cons a r ih =>
    rw [List.map_cons, List.nodup_cons] at h
    intro p q hp hq e
    rcases List.mem_cons.1 hp with hp1 | hp1
    · rcases List.mem_cons.1 hq with hq1 | hq1
      · rw [hp1, hq1]
      · exact absurd (List.mem_map.2 ⟨q, hq1, by rw [← hp1, e]⟩) h.1
    · rcases List.mem_cons.1 hq with hq1 | hq1
      · exact absurd (List.mem_map.2 ⟨p, hp1, by rw [← hq1, e]⟩) h.1
      · exact ih h.2 hp1 hq1 e

/-- What is told at once. -/
structure Told (l : List En) (seq s most : Int) (d : ChD) : Prop where
  made : ∀ id, id ∈ d.made ↔ ∃ p ∈ sinceL s l, p.id = id ∧ whatP p = 1 ∧ p.last ≤ d.toN
  chgd : ∀ id, id ∈ d.chgd ↔ ∃ p ∈ sinceL s l, p.id = id ∧ whatP p = 2 ∧ p.last ≤ d.toN
  gone : ∀ id, id ∈ d.gone ↔ ∃ p ∈ sinceL s l, p.id = id ∧ whatP p = 3 ∧ p.last ≤ d.toN
  nodup : (d.made ++ d.chgd ++ d.gone).Nodup
  ge : s ≤ d.toN
  le : d.toN ≤ seq
  all : d.more = false → d.toN = seq
  some : d.more = true → 0 < most ∧ ((d.made.length + d.chgd.length + d.gone.length : Nat) : Int) = most ∧ ∃ e ∈ l, e.seq = d.toN ∧ s < e.seq
  len : d.made.length + d.chgd.length + d.gone.length ≤ l.length

theorem take_last {L : List Pa} (hp : L.Pairwise (fun a b => a.last < b.last)) {n : Nat} (h1 : 0 < n) (h2 : n ≤ L.length) :
    (∃ z ∈ L.take n, z.last = lastP (L.take n)) ∧ (∀ p ∈ L.take n, p.last ≤ lastP (L.take n)) ∧ ∀ p ∈ L.drop n, lastP (L.take n) < p.last := by
  have hsp := hp
  rw [← List.take_append_drop n L, List.pairwise_append] at hsp
  rcases List.eq_nil_or_concat (L.take n) with e | ⟨A, z, e⟩
  · have := congrArg List.length e
    rw [List.length_take, List.length_nil] at this
    omega
  · rw [List.concat_eq_append] at e
    rw [e] at hsp ⊢
    rw [lastP_snoc]
    refine ⟨⟨z, by simp, rfl⟩, fun p hp' => ?_, fun p hp' => hsp.2.2 z (by simp) p hp'⟩
    rcases List.mem_append.1 hp' with h | h
    · have := (List.pairwise_append.1 hsp.1).2.2 p h z (by simp)
      omega
    · rw [List.mem_singleton.1 h]
      exact Int.le_refl _
theorem ids_mem {k : Int} {c : List Pa} {id : ByteArray} : id ∈ sortB (idsW k c) ↔ ∃ p ∈ c, p.id = id ∧ whatP p = k := by
  rw [(sortB_perm _).mem_iff]
  unfold idsW
  rw [List.mem_map]
  constructor
  · rintro ⟨p, h1, h2⟩
    rw [List.mem_filter] at h1
    exact ⟨p, h1.1, h2, of_decide_eq_true h1.2⟩
  · rintro ⟨p, h1, h2, h3⟩
    exact ⟨p, List.mem_filter.2 ⟨h1, decide_eq_true h3⟩, h2⟩
theorem whatP_rng' (p : Pa) : whatP p = 0 ∨ whatP p = 1 ∨ whatP p = 2 ∨ whatP p = 3 := by
  unfold whatP
  split <;> split <;> simp
theorem ids_sum : ∀ c : List Pa, (∀ p ∈ c, whatP p ≠ 0) → (idsW 1 c).length + (idsW 2 c).length + (idsW 3 c).length = c.length
  | [], _ => rfl
  | p :: c, h => by
    have ih := ids_sum c (fun q hq => h q (by simp [hq]))
    have h0 := h p (by simp)
    unfold idsW at ih ⊢
    simp only [List.length_map, List.filter_cons] at ih ⊢
    rcases whatP_rng' p with e | e | e | e
    · exact absurd e h0
    · simp [e]; omega
    · simp [e]; omega
    · simp [e]; omega
theorem ids_apart {c : List Pa} (hn : (c.map (·.id)).Nodup) : (sortB (idsW 1 c) ++ sortB (idsW 2 c) ++ sortB (idsW 3 c)).Nodup := by
  have hs : ∀ k, (sortB (idsW k c)).Nodup := fun k => (sortB_perm _).nodup_iff.2 (idsW_nodup k hn)
  have hd : ∀ k j, k ≠ j → ∀ a ∈ sortB (idsW k c), ∀ b ∈ sortB (idsW j c), a ≠ b := fun k j hkj a ha b hb e => by
    obtain ⟨p, hp, e1, e2⟩ := ids_mem.1 ha
    obtain ⟨q, hq, e3, e4⟩ := ids_mem.1 hb
    have := nodup_inj hn hp hq (by rw [e1, e3, e])
    subst this
    omega
  rw [List.nodup_append, List.nodup_append]
  refine ⟨⟨hs 1, hs 2, hd 1 2 (by decide)⟩, hs 3, fun a ha b hb => ?_⟩
  rcases List.mem_append.1 ha with ha | ha
  · exact hd 1 3 (by decide) a ha b hb
  · exact hd 2 3 (by decide) a ha b hb
theorem told_ok {l : List En} {floor seq s most : Int} {ys : List Pa} (h : rightB l floor seq = true) (hy : IsStable cfP (sinceL s l) ys) (hs : s ≤ seq) : Told l seq s most (sncD seq ys most) := by
  have hpw := (since_right h hy).2
  have hnd := stable_nodup hy
  have hmem : ∀ p, p ∈ ys ↔ p ∈ sinceL s l := fun p => hy.perm.mem_iff
  have hlen : ys.length ≤ l.length := by
    rw [hy.perm.length_eq]
    exact (by
      have : ∀ l : List En, (sinceL s l).length ≤ l.length := by
        intro l
        induction l with
        | nil => exact Nat.le_refl _
        | cons e r ih =>
          rw [sinceL_cons, List.length_cons]
          split
          · omega
          · split
            · rw [List.length_map]; omega
            · rw [List.length_cons]; omega
      exact this l)
  have htp : (toldP ys).Pairwise (fun a b => a.last < b.last) := hpw.sublist List.filter_sublist
  have htn : ((toldP ys).map (·.id)).Nodup := hnd.sublist (List.filter_sublist.map _)
  have htm : ∀ p, p ∈ toldP ys ↔ p ∈ sinceL s l ∧ whatP p ≠ 0 := fun p => by
    unfold toldP
    rw [List.mem_filter, hmem]
    unfold noneP
    simp
  have htl : (toldP ys).length ≤ ys.length := by unfold toldP; exact List.length_filter_le _ _
  cases hm : moreP ys most with
  | false =>
    have e : sncD seq ys most = ⟨sortB (idsW 1 (toldP ys)), sortB (idsW 2 (toldP ys)), sortB (idsW 3 (toldP ys)), seq, false⟩ := by
      unfold sncD cutP
      rw [hm]
      rfl
    rw [e]
    have hk : ∀ k : Int, k ≠ 0 → ∀ id, id ∈ sortB (idsW k (toldP ys)) ↔ ∃ p ∈ sinceL s l, p.id = id ∧ whatP p = k ∧ p.last ≤ seq := fun k hk id => by
      rw [ids_mem]
      constructor
      · rintro ⟨p, h1, h2, h3⟩
        exact ⟨p, ((htm p).1 h1).1, h2, h3, (since_last h ((htm p).1 h1).1).2.1⟩
      · rintro ⟨p, h1, h2, h3, _⟩
        exact ⟨p, (htm p).2 ⟨h1, by omega⟩, h2, h3⟩
    exact ⟨hk 1 (by decide), hk 2 (by decide), hk 3 (by decide), ids_apart htn, hs, Int.le_refl _, fun _ => rfl, fun h => by simp at h, by
      dsimp only
      rw [sortB_len, sortB_len, sortB_len, ids_sum _ (fun p hp => ((htm p).1 hp).2)]
      omega⟩
  | true =>
    have hm' := hm
    unfold moreP at hm'
    simp only [Bool.and_eq_true, decide_eq_true_eq] at hm'
    obtain ⟨hp0, hp1⟩ := hm'
    obtain ⟨n, hn⟩ : ∃ n, most.toNat = n := ⟨_, rfl⟩
    have hn1 : (n : Int) = most := by omega
    have e : sncD seq ys most = ⟨sortB (idsW 1 ((toldP ys).take n)), sortB (idsW 2 ((toldP ys).take n)), sortB (idsW 3 ((toldP ys).take n)), lastP ((toldP ys).take n), true⟩ := by
      unfold sncD cutP
      rw [hm, hn]
      rfl
    rw [e]
    obtain ⟨⟨z, hz1, hz2⟩, hz3, hz4⟩ := take_last htp (n := n) (by omega) (by omega)
    have hcn : (((toldP ys).take n).map (·.id)).Nodup := htn.sublist ((List.take_sublist n _).map _)
    have hct : ∀ p ∈ (toldP ys).take n, p ∈ sinceL s l ∧ whatP p ≠ 0 := fun p hp => (htm p).1 (List.mem_of_mem_take hp)
    have hk : ∀ k : Int, k ≠ 0 → ∀ id, id ∈ sortB (idsW k ((toldP ys).take n)) ↔ ∃ p ∈ sinceL s l, p.id = id ∧ whatP p = k ∧ p.last ≤ lastP ((toldP ys).take n) := fun k hk id => by
      rw [ids_mem]
      constructor
      · rintro ⟨p, h1, h2, h3⟩
        exact ⟨p, (hct p h1).1, h2, h3, hz3 p h1⟩
      · rintro ⟨p, h1, h2, h3, h4⟩
        have h5 := (htm p).2 ⟨h1, by omega⟩
        rw [← List.take_append_drop n (toldP ys)] at h5
        rcases List.mem_append.1 h5 with h6 | h6
        · exact ⟨p, h6, h2, h3⟩
        · have := hz4 p h6
          omega
    have hzl := since_last h (hct z hz1).1
    have hsum := ids_sum _ (fun p hp => (hct p hp).2)
    rw [List.length_take] at hsum
    exact ⟨hk 1 (by decide), hk 2 (by decide), hk 3 (by decide), ids_apart hcn, by dsimp only; omega, by dsimp only; omega, fun h => by simp at h, fun _ => ⟨hp0, by
      dsimp only
      rw [sortB_len, sortB_len, sortB_len]
      omega, by
      obtain ⟨x, hx1, hx2⟩ := hzl.2.2
      exact ⟨x, hx1, by dsimp only; omega, by omega⟩⟩, by
      dsimp only
      rw [sortB_len, sortB_len, sortB_len]
      omega⟩

/-- What was told round by round, up to a number. -/
structure AllI (l : List En) (seq s0 s : Int) (m c g : List ByteArray) : Prop where
  ge : s0 ≤ s
  le : s ≤ seq
  nd : (m ++ c ++ g).Nodup
  mc : ∀ id, id ∈ m ∨ id ∈ c → ∃ p ∈ sinceL s0 l, p.id = id ∧ p.isb = true ∧ p.last ≤ s
  gn : ∀ id ∈ g, ∃ p ∈ sinceL s0 l, p.id = id ∧ p.isb = false ∧ p.last ≤ s
  full : ∀ p ∈ sinceL s0 l, p.last ≤ s → (p.isb = true → p.id ∈ m ∨ p.id ∈ c) ∧ (p.isb = false → p.was = true → p.id ∈ g)
theorem AllI.start {l : List En} {floor seq s0 : Int} (h : rightB l floor seq = true) (hs : s0 ≤ seq) : AllI l seq s0 s0 [] [] [] :=
  ⟨Int.le_refl _, hs, by simp, fun id h => by simp at h, fun id h => by simp at h, fun p hp hl => by have := (since_last h hp).1; omega⟩
theorem what_is (p : Pa) : (whatP p = 1 → p.isb = true) ∧ (whatP p = 2 → p.isb = true) ∧ (whatP p = 3 → p.isb = false) ∧ (p.isb = true → whatP p = 1 ∨ whatP p = 2) ∧ (p.isb = false → p.was = true → whatP p = 3) := by
  unfold whatP
  cases p.was <;> cases p.isb <;> simp
theorem nodup_six {α : Type} {a b c x y z : List α} (h1 : (a ++ b ++ c).Nodup) (h2 : (x ++ y ++ z).Nodup) (h : ∀ p ∈ a ++ b ++ c, ∀ q ∈ x ++ y ++ z, p ≠ q) : ((a ++ x) ++ (b ++ y) ++ (c ++ z)).Nodup := by
  have h3 : ((a ++ b ++ c) ++ (x ++ y ++ z)).Nodup := List.nodup_append.2 ⟨h1, h2, h⟩
  refine List.Perm.nodup_iff ?_ |>.1 h3
  have e1 : ((a ++ b ++ c) ++ (x ++ y ++ z)).Perm ((a ++ b ++ x) ++ (c ++ (y ++ z))) := by
    simp only [List.append_assoc]
    exact List.Perm.append_left a (List.Perm.append_left b (List.perm_append_comm_assoc c x (y ++ z)))
  refine e1.trans ?_
  have e2 : ((a ++ b ++ x) ++ (c ++ (y ++ z))).Perm ((a ++ x ++ b) ++ (y ++ (c ++ z))) := by
    refine List.Perm.append ?_ ?_
    · simp only [List.append_assoc]
      exact List.Perm.append_left a List.perm_append_comm
    · exact List.perm_append_comm_assoc c y z
  refine e2.trans ?_
  simp only [List.append_assoc]
  exact List.Perm.refl _
theorem AllI.step {l : List En} {floor seq s0 s most : Int} {m c g : List ByteArray} {d : ChD} (h : AllI l seq s0 s m c g) (hr : rightB l floor seq = true) (hd : Told l seq s most d) : AllI l seq s0 d.toN (m ++ d.made) (c ++ d.chgd) (g ++ d.gone) := by
  have hn0 := sinceL_nodup s0 l
  have hge := h.ge
  have hge2 := hd.ge
  have hnew : ∀ id, id ∈ d.made ∨ id ∈ d.chgd → ∃ p ∈ sinceL s0 l, p.id = id ∧ p.isb = true ∧ s < p.last ∧ p.last ≤ d.toN := fun id hid => by
    have : ∃ p ∈ sinceL s l, p.id = id ∧ p.isb = true ∧ p.last ≤ d.toN := by
      rcases hid with h1 | h1
      · obtain ⟨p, h2, h3, h4, h5⟩ := (hd.made id).1 h1
        exact ⟨p, h2, h3, (what_is p).1 h4, h5⟩
      · obtain ⟨p, h2, h3, h4, h5⟩ := (hd.chgd id).1 h1
        exact ⟨p, h2, h3, (what_is p).2.1 h4, h5⟩
    obtain ⟨p, h2, h3, h4, h5⟩ := this
    obtain ⟨q, g1, g2, g3, g4, _⟩ := since_move hr hge h2
    have := (since_last hr h2).1
    exact ⟨q, g1, g2.trans h3, g3.trans h4, by omega, by omega⟩
  have hgone : ∀ id ∈ d.gone, ∃ p ∈ sinceL s0 l, p.id = id ∧ p.isb = false ∧ s < p.last ∧ p.last ≤ d.toN := fun id hid => by
    obtain ⟨p, h2, h3, h4, h5⟩ := (hd.gone id).1 hid
    obtain ⟨q, g1, g2, g3, g4, _⟩ := since_move hr hge h2
    have := (since_last hr h2).1
    exact ⟨q, g1, g2.trans h3, g3.trans ((what_is p).2.2.1 h4), by omega, by omega⟩
  refine ⟨by omega, hd.le, nodup_six h.nd hd.nodup (fun a ha b hb e => ?_), fun id hid => ?_, fun id hid => ?_, fun p hp hl => ?_⟩
  · subst e
    have o1 : ∃ p ∈ sinceL s0 l, p.id = a ∧ p.last ≤ s := by
      rw [List.mem_append, List.mem_append] at ha
      rcases ha with ha | ha
      · obtain ⟨p, h1, h2, h3, h4⟩ := h.mc a ha
        exact ⟨p, h1, h2, h4⟩
      · obtain ⟨p, h1, h2, h3, h4⟩ := h.gn a ha
        exact ⟨p, h1, h2, h4⟩
    have o2 : ∃ p ∈ sinceL s0 l, p.id = a ∧ s < p.last := by
      rw [List.mem_append, List.mem_append] at hb
      rcases hb with hb | hb
      · obtain ⟨p, h1, h2, h3, h4, h5⟩ := hnew a hb
        exact ⟨p, h1, h2, h4⟩
      · obtain ⟨p, h1, h2, h3, h4, h5⟩ := hgone a hb
        exact ⟨p, h1, h2, h4⟩
    obtain ⟨p, h1, h2, h3⟩ := o1
    obtain ⟨q, h4, h5, h6⟩ := o2
    have := nodup_inj hn0 h1 h4 (by rw [h2, h5])
    subst this
    omega
  · have : (id ∈ m ∨ id ∈ c) ∨ (id ∈ d.made ∨ id ∈ d.chgd) := by
      simp only [List.mem_append] at hid
      rcases hid with (h1 | h1) | (h1 | h1)
      · exact .inl (.inl h1)
      · exact .inr (.inl h1)
      · exact .inl (.inr h1)
      · exact .inr (.inr h1)
    rcases this with h1 | h1
    · obtain ⟨p, g1, g2, g3, g4⟩ := h.mc id h1
      exact ⟨p, g1, g2, g3, by omega⟩
    · obtain ⟨p, g1, g2, g3, g4, g5⟩ := hnew id h1
      exact ⟨p, g1, g2, g3, g5⟩
  · rcases List.mem_append.1 hid with h1 | h1
    · obtain ⟨p, g1, g2, g3, g4⟩ := h.gn id h1
      exact ⟨p, g1, g2, g3, by omega⟩
    · obtain ⟨p, g1, g2, g3, g4, g5⟩ := hgone id h1
      exact ⟨p, g1, g2, g3, g5⟩
  · by_cases hls : p.last ≤ s
    · have h1 := h.full p hp hls
      refine ⟨fun e => ?_, fun e1 e2 => List.mem_append.2 (.inl (h1.2 e1 e2))⟩
      rcases h1.1 e with h2 | h2
      · exact .inl (List.mem_append.2 (.inl h2))
      · exact .inr (List.mem_append.2 (.inl h2))
    · obtain ⟨q, g1, g2, g3, g4, g5⟩ := since_back hr hge hp (s := s) (by omega)
      refine ⟨fun e => ?_, fun e1 e2 => ?_⟩
      · rcases (what_is q).2.2.2.1 (g3.trans e) with h2 | h2
        · exact .inl (List.mem_append.2 (.inr ((hd.made p.id).2 ⟨q, g1, g2, h2, by omega⟩)))
        · exact .inr (List.mem_append.2 (.inr ((hd.chgd p.id).2 ⟨q, g1, g2, h2, by omega⟩)))
      · exact List.mem_append.2 (.inr ((hd.gone p.id).2 ⟨q, g1, g2, (what_is q).2.2.2.2 (g3.trans e1) (g5 e2), by omega⟩))
/-- How many entries stand behind a number. -/
def behind (l : List En) (s : Int) : Nat := (l.filter (fun e => decide (s < e.seq))).length
theorem behind_le (l : List En) (s : Int) : behind l s ≤ l.length := List.length_filter_le _ _
theorem behind_less {l : List En} {s s' : Int} (h : s < s') (he : ∃ e ∈ l, e.seq = s') : behind l s' < behind l s := by
  obtain ⟨e, he, hs⟩ := he
  unfold behind
  induction l with
  | nil => cases he
  | cons a r ih =>
    have hmono : ∀ r : List En, (r.filter (fun e => decide (s' < e.seq))).length ≤ (r.filter (fun e => decide (s < e.seq))).length := fun r => by
      induction r with
      | nil => exact Nat.le_refl _
      | cons a r ih =>
        rw [List.filter_cons, List.filter_cons]
        by_cases h1 : s' < a.seq
        · rw [if_pos (by simpa using h1), if_pos (by simp; omega)]
          simpa using ih
        · rw [if_neg (by simpa using h1)]
          split
          · rw [List.length_cons]; omega
          · exact ih
    rw [List.filter_cons, List.filter_cons]
    rcases List.mem_cons.1 he with rfl | he
    · rw [if_neg (by simp; omega), if_pos (by simp; omega), List.length_cons]
      have := hmono r
      omega
    · have ih := ih he
      by_cases h1 : s' < a.seq
      · rw [if_pos (by simpa using h1), if_pos (by simp; omega)]
        simpa using ih
      · rw [if_neg (by simpa using h1)]
        split
        · rw [List.length_cons]; omega
        · exact ih
end Go.Proofs.Ythgkgjcnmahacaa
end

section
/- Changes put together: cells and lists that are apart. -/
set_option linter.unusedSimpArgs false
set_option linter.unusedVariables false
namespace Go.Proofs.Ythgkgjcnmahacaa
open Go.RowKit Go.OpenShut

theorem ChAt.set0 {W : World} {g : Nat} {r : RC} (h : ChAt W g r) (p : Option Addr) (n c : Nat) : ChAt (W.setCell ⟨g, 0, none⟩ (.slice p n c)) g { r with pa := p, na := n, ca := c } := by
  unfold ChAt at h ⊢
  simp [World.setCell, Array.getElem?_modify, h]
theorem ChAt.set1 {W : World} {g : Nat} {r : RC} (h : ChAt W g r) (p : Option Addr) (n c : Nat) : ChAt (W.setCell ⟨g, 1, none⟩ (.slice p n c)) g { r with pb := p, nb := n, cb := c } := by
  unfold ChAt at h ⊢
  simp [World.setCell, Array.getElem?_modify, h]
theorem ChAt.set2 {W : World} {g : Nat} {r : RC} (h : ChAt W g r) (p : Option Addr) (n c : Nat) : ChAt (W.setCell ⟨g, 2, none⟩ (.slice p n c)) g { r with pc := p, nc := n, cc := c } := by
  unfold ChAt at h ⊢
  simp [World.setCell, Array.getElem?_modify, h]
theorem ChAt.set34 {W : World} {g : Nat} {r : RC} (h : ChAt W g r) (t : Int) (m : Bool) : ChAt ((W.setCell ⟨g, 3, none⟩ (.int .i64 t)).setCell ⟨g, 4, none⟩ (.bool m)) g { r with toN := t, more := m } := by
  unfold ChAt at h ⊢
  simp [World.setCell, Array.getElem?_modify, h]
theorem ChAt.keptR {W W' : World} {g : Nat} {row : Option Nat} {r : RC} (h : ChAt W g r) (hg : W.grownBy W' row) (hne : row ≠ some g) : ChAt W' g r := (hg.block g h.lt (fun e => hne e.symm)).trans h

/-- Three lists of one change and three of another, apart. -/
structure MidL (W : World) (base B g1 : Nat) (a b c : Value) (la lb lc : List ByteArray) (d : ChD) (r1 : RC) : Prop where
  own : Own3 W base a b c la lb lc
  ch : NewChg W B d r1
  lt1 : ∀ k, (Value.slice r1.pa r1.na r1.ca).ownBlock = some k ∨ (Value.slice r1.pb r1.nb r1.cb).ownBlock = some k ∨ (Value.slice r1.pc r1.nc r1.cc).ownBlock = some k → k < g1
  ap : ∀ k, a.ownBlock = some k ∨ b.ownBlock = some k ∨ c.ownBlock = some k → k < B ∨ g1 < k
  o1 : base ≤ B
  o2 : B ≤ g1
  o3 : g1 < W.heap.size
section
variable {W W' : World} {base B g1 : Nat} {a b c : Value} {la lb lc : List ByteArray} {d : ChD} {r1 : RC} (h : MidL W base B g1 a b c la lb lc d r1)
include h
theorem MidL.rot : MidL W base B g1 b c a lb lc la d r1 := ⟨h.own.rot, h.ch, h.lt1, fun k e => h.ap k (by rcases e with e | e | e; exact .inr (.inl e); exact .inr (.inr e); exact .inl e), h.o1, h.o2, h.o3⟩
theorem NewChg.sameL (hb : ∀ k, B ≤ k → k < g1 → W'.heap[k]? = W.heap[k]?) : NewChg W' B d r1 :=
  ⟨h.ch.made.same (fun k e => hb k (h.ch.made.lt k e).1 (h.lt1 k (.inl e))), h.ch.chgd.same (fun k e => hb k (h.ch.chgd.lt k e).1 (h.lt1 k (.inr (.inl e)))), h.ch.gone.same (fun k e => hb k (h.ch.gone.lt k e).1 (h.lt1 k (.inr (.inr e)))), h.ch.toN, h.ch.more⟩
theorem MidL.put1 {x : Value} {l : List ByteArray} (hx : Own W' base 9 encS 1 x l) (hg : W.grownBy W' a.ownBlock) (hat : x.ownBlock = a.ownBlock ∨ ∀ k, x.ownBlock = some k → W.heap.size ≤ k) : MidL W' base B g1 x b c l lb lc d r1 := by
  have o3 := h.o3
  have hz := hg.size
  refine ⟨h.own.put1 hx hg hat, NewChg.sameL h (fun k h1 h2 => hg.block k (by omega) (fun e => ?_)), h.lt1, fun k e => ?_, h.o1, h.o2, by omega⟩
  · have := h.ap k (.inl e.symm)
    omega
  · rcases e with e | e | e
    · rcases hat with h1 | h1
      · exact h.ap k (.inl (by rw [← h1]; exact e))
      · have := h1 k e
        omega
    · exact h.ap k (.inr (.inl e))
    · exact h.ap k (.inr (.inr e))
theorem MidL.store (g j : Nat) (v : Value) (hgb : g < base) : MidL (W.setCell ⟨g, j, none⟩ v) base B g1 a b c la lb lc d r1 := by
  have o1 := h.o1
  have o3 := h.o3
  have hg := grownBy_set W g j v
  have hz := hg.size
  exact ⟨h.own.same (fun k h1 h2 => hg.block k h2 (fun e => by cases e; omega)), NewChg.sameL h (fun k h1 h2 => hg.block k (by omega) (fun e => by cases e; omega)), h.lt1, h.ap, h.o1, h.o2, by omega⟩
end

/-- Where the parts lie. -/
structure MidC (w W : World) (r : RB) (q : RC) (g1 : Nat) (r1 : RC) : Prop where
  box : BoxAt W w.heap.size r
  zero : ChAt W (w.heap.size + 1) RC.zero
  out : ChAt W (w.heap.size + 2) q
  c : ChAt W g1 r1
  below : Below w.heap.size w W
  o : w.heap.size + 2 < g1
section
variable {w W W' : World} {r : RB} {q : RC} {g1 : Nat} {r1 : RC} (h : MidC w W r q g1 r1)
include h
theorem MidC.row {row : Option Nat} (hg : W.grownBy W' row) (hr : ∀ k, row = some k → w.heap.size + 2 < k ∧ k ≠ g1) : MidC w W' r q g1 r1 := by
  have := h.out.lt
  exact ⟨h.box.keptR hg (fun e => by have := hr _ e; omega), h.zero.keptR hg (fun e => by have := hr _ e; omega), h.out.keptR hg (fun e => by have := hr _ e; omega), h.c.keptR hg (fun e => by have := hr _ e; omega), h.below.grown hg (by omega) (fun k e => by have := hr _ e; omega), h.o⟩
theorem MidC.store {q' : RC} (j : Nat) (v : Value) (ho : ChAt (W.setCell ⟨w.heap.size + 2, j, none⟩ v) (w.heap.size + 2) q') : MidC w (W.setCell ⟨w.heap.size + 2, j, none⟩ v) r q' g1 r1 := by
  have hz := h.out.lt
  have hg := grownBy_set W (w.heap.size + 2) j v
  have o := h.o
  exact ⟨h.box.keptR hg (fun e => by have := Option.some.inj e; omega), h.zero.keptR hg (fun e => by have := Option.some.inj e; omega), ho, h.c.keptR hg (fun e => by cases e; omega), h.below.grown hg (by omega) (fun k e => by cases e; omega), o⟩
end
/-- A round's parts. -/
structure Mid (w W : World) (r : RB) (q : RC) (B g1 : Nat) (r1 : RC) (d : ChD) (m c g : List ByteArray) : Prop where
  cs : MidC w W r q g1 r1
  ls : MidL W (w.heap.size + 3) B g1 (.slice q.pa q.na q.ca) (.slice q.pb q.nb q.cb) (.slice q.pc q.nc q.cc) m c g d r1
section
variable {w W W' : World} {r : RB} {q : RC} {B g1 : Nat} {r1 : RC} {d : ChD} {m c g : List ByteArray} (h : Mid w W r q B g1 r1 d m c g)
include h
theorem Mid.grow {row : Option Nat} (hg : W.grownBy W' row) (hr : row = (Value.slice q.pa q.na q.ca).ownBlock ∨ row = (Value.slice q.pb q.nb q.cb).ownBlock ∨ row = (Value.slice q.pc q.nc q.cc).ownBlock) : MidC w W' r q g1 r1 := by
  have o2 := h.ls.o2
  refine h.cs.row hg (fun k e => ?_)
  have h1 : k < B ∨ g1 < k := h.ls.ap k (by rcases hr with h | h | h; exact .inl (h ▸ e); exact .inr (.inl (h ▸ e)); exact .inr (.inr (h ▸ e)))
  have h2 : w.heap.size + 3 ≤ k := by
    rcases hr with h1 | h1 | h1
    · exact (h.ls.own.oa.lt k (h1 ▸ e)).1
    · exact (h.ls.own.ob.lt k (h1 ▸ e)).1
    · exact (h.ls.own.oc.lt k (h1 ▸ e)).1
  omega
theorem Mid.app1 {p : Option Addr} {n cc : Nat} {l : List ByteArray} (hx : Own W' (w.heap.size + 3) 9 encS 1 (.slice p n cc) l) (hg : W.grownBy W' (Value.slice q.pa q.na q.ca).ownBlock) (hat : (Value.slice p n cc).ownBlock = (Value.slice q.pa q.na q.ca).ownBlock ∨ ∀ k, (Value.slice p n cc).ownBlock = some k → W.heap.size ≤ k) :
    Mid w (W'.setCell ⟨w.heap.size + 2, 0, none⟩ (.slice p n cc)) r { q with pa := p, na := n, ca := cc } B g1 r1 d l c g := by
  have hc := h.grow hg (.inl rfl)
  exact ⟨hc.store 0 _ (hc.out.set0 p n cc), (h.ls.put1 hx hg hat).store _ _ _ (by omega)⟩
theorem Mid.app2 {p : Option Addr} {n cc : Nat} {l : List ByteArray} (hx : Own W' (w.heap.size + 3) 9 encS 1 (.slice p n cc) l) (hg : W.grownBy W' (Value.slice q.pb q.nb q.cb).ownBlock) (hat : (Value.slice p n cc).ownBlock = (Value.slice q.pb q.nb q.cb).ownBlock ∨ ∀ k, (Value.slice p n cc).ownBlock = some k → W.heap.size ≤ k) :
    Mid w (W'.setCell ⟨w.heap.size + 2, 1, none⟩ (.slice p n cc)) r { q with pb := p, nb := n, cb := cc } B g1 r1 d m l g := by
  have hc := h.grow hg (.inr (.inl rfl))
  exact ⟨hc.store 1 _ (hc.out.set1 p n cc), (h.ls.rot.put1 hx hg hat).rot.rot.store _ _ _ (by omega)⟩
theorem Mid.app3 {p : Option Addr} {n cc : Nat} {l : List ByteArray} (hx : Own W' (w.heap.size + 3) 9 encS 1 (.slice p n cc) l) (hg : W.grownBy W' (Value.slice q.pc q.nc q.cc).ownBlock) (hat : (Value.slice p n cc).ownBlock = (Value.slice q.pc q.nc q.cc).ownBlock ∨ ∀ k, (Value.slice p n cc).ownBlock = some k → W.heap.size ≤ k) :
    Mid w (W'.setCell ⟨w.heap.size + 2, 2, none⟩ (.slice p n cc)) r { q with pc := p, nc := n, cc := cc } B g1 r1 d m c l := by
  have hc := h.grow hg (.inr (.inr rfl))
  exact ⟨hc.store 2 _ (hc.out.set2 p n cc), (h.ls.rot.rot.put1 hx hg hat).rot.store _ _ _ (by omega)⟩
theorem Mid.end2 (t : Int) (mm : Bool) : Mid w ((W.setCell ⟨w.heap.size + 2, 3, none⟩ (.int .i64 t)).setCell ⟨w.heap.size + 2, 4, none⟩ (.bool mm)) r { q with toN := t, more := mm } B g1 r1 d m c g := by
  have ho := h.cs.out.set34 t mm
  have h1 : MidC w (W.setCell ⟨w.heap.size + 2, 3, none⟩ (.int .i64 t)) r { q with toN := t } g1 r1 := h.cs.store 3 _ (by
    have h2 := h.cs.out
    unfold ChAt at h2 ⊢
    simp [World.setCell, Array.getElem?_modify, h2])
  exact ⟨h1.store 4 _ ho, (h.ls.store _ 3 (.int .i64 t) (by omega)).store _ 4 (.bool mm) (by omega)⟩
end
/-- Between rounds. -/
structure AllS (w W : World) (r : RB) (q : RC) (m c g : List ByteArray) : Prop where
  box : BoxAt W w.heap.size r
  zero : ChAt W (w.heap.size + 1) RC.zero
  out : ChAt W (w.heap.size + 2) q
  own : Own3 W (w.heap.size + 3) (.slice q.pa q.na q.ca) (.slice q.pb q.nb q.cb) (.slice q.pc q.nc q.cc) m c g
  below : Below w.heap.size w W
theorem Mid.all {w W : World} {r : RB} {q : RC} {B g1 : Nat} {r1 : RC} {d : ChD} {m c g : List ByteArray} (h : Mid w W r q B g1 r1 d m c g) : AllS w W r q m c g := ⟨h.cs.box, h.cs.zero, h.cs.out, h.ls.own, h.cs.below⟩
theorem AllS.mid {w W W' : World} {r : RB} {q : RC} {m c g : List ByteArray} (h : AllS w W r q m c g) (hb : Below W.heap.size W W') {d : ChD} {r1 : RC} (hn : NewChg W' W.heap.size d r1) : Mid w (W'.alloc r1.obj) r q W.heap.size W'.heap.size r1 d m c g := by
  have h1 := h.out.lt
  have h2 := hb.size
  have hA : Below W'.heap.size W' (W'.alloc r1.obj) := (Below.refl _ _).alloc (Nat.le_refl _) _
  have hb2 := hb.alloc hb.size r1.obj
  refine ⟨⟨h.box.under hb2 (by omega), h.zero.under hb2 (by omega), h.out.under hb2 h1, heap_alloc_at rfl, h.below.trans (hb2.mono h.below.size), by omega⟩, ⟨h.own.same (fun k h3 h4 => hb2.block k h4), hn.below hA, fun k e => ?_, fun k e => ?_, by omega, by omega, by simp⟩⟩
  · rcases e with e | e | e
    · exact (hn.made.lt k e).2
    · exact (hn.chgd.lt k e).2
    · exact (hn.gone.lt k e).2
  · left
    rcases e with e | e | e
    · exact (h.own.oa.lt k e).2
    · exact (h.own.ob.lt k e).2
    · exact (h.own.oc.lt k e).2
theorem AllS.start (w : World) (r : RB) (s0 : Int) : AllS w (((w.alloc r.obj).alloc RC.zero.obj).alloc (RC.obj ⟨none, 0, 0, none, 0, 0, none, 0, 0, s0, true⟩)) r ⟨none, 0, 0, none, 0, 0, none, 0, 0, s0, true⟩ [] [] [] :=
  ⟨heap_alloc_lt (by simp; omega) (heap_alloc_lt (by simp) (heap_alloc_at rfl)), heap_alloc_lt (by simp) (heap_alloc_at (by simp)), heap_alloc_at (by simp), ⟨Own.nil _ _ _, Own.nil _ _ _, Own.nil _ _ _, fun k e => by simp [Value.ownBlock] at e, fun k e => by simp [Value.ownBlock] at e, fun k e => by simp [Value.ownBlock] at e⟩, ((below2 w _ _).trans ((Below.refl _ _).alloc (by simp; omega) _))⟩
end Go.Proofs.Ythgkgjcnmahacaa
end
