/- What a right trail says of an id since a number, in plain lists. -/
import Derived.Test.YtfpgkiajggfadaaSinD
import Derived.Test.YtfpgkiajggfadaaTrB3
set_option linter.unusedSimpArgs false
set_option linter.unusedVariables false
namespace Go.Proofs.Ytfpgkiajggfadaa

theorem right_at {l : List En} {floor seq : Int} (h : rightB l floor seq = true) {k : Nat} {x : En} (hx : l[k]? = some x) : x.seq = floor + 1 + k ∧ mayB (lastW (l.take k) x.id) x.what = true := by
  unfold rightB at h
  simp only [Bool.and_eq_true, List.all_eq_true, List.mem_range] at h
  have := h.2 k (List.getElem?_eq_some_iff.1 hx).1
  rw [okAt_of hx] at this
  simpa using this
theorem may_what {w a : Int} (h : mayB w a = true) : a = 1 ∧ w = 0 ∨ (a = 2 ∨ a = 3) ∧ w ≠ 3 := by
  unfold mayB at h
  split at h
  · exact .inl ⟨by assumption, by simpa using h⟩
  · split at h
    · exact .inr ⟨by assumption, by simpa using h⟩
    · cases h
/-- The last entry of an id ahead of a place. -/
theorem lastW_is {l : List En} {id : ByteArray} {k : Nat} {x : En} (hx : l[k]? = some x) (hid : x.id = id) : ∀ j : Nat, k < j → j ≤ l.length → (∀ i y, k < i → i < j → l[i]? = some y → y.id ≠ id) → lastW (l.take j) id = x.what
  | 0, h, _, _ => by omega
  | j + 1, h, hj, hno => by
    by_cases e : k = j
    · subst e
      rw [lastW_take hx, if_pos hid]
    · obtain ⟨y, hy⟩ : ∃ y, l[j]? = some y := ⟨_, List.getElem?_eq_getElem (by omega)⟩
      rw [lastW_take hy, if_neg (hno j y (by omega) (by omega) hy)]
      exact lastW_is hx hid j (by omega) (by omega) (fun i z h1 h2 => hno i z h1 (by omega))
/-- Of two entries of one id in a right trail, the first next one. -/
theorem next_of {l : List En} {id : ByteArray} {k : Nat} : ∀ (d j : Nat) (y : En), j - k ≤ d → k < j → l[j]? = some y → y.id = id → ∃ i z, k < i ∧ i ≤ j ∧ l[i]? = some z ∧ z.id = id ∧ ∀ i' z', k < i' → i' < i → l[i']? = some z' → z'.id ≠ id
  | 0, j, y, hd, hk, _, _ => by omega
  | d + 1, j, y, hd, hk, hy, hid => by
    by_cases h : ∃ i' z', k < i' ∧ i' < j ∧ l[i']? = some z' ∧ z'.id = id
    · obtain ⟨i', z', h1, h2, h3, h4⟩ := h
      obtain ⟨i, z, g1, g2, g3⟩ := next_of d i' z' (by omega) h1 h3 h4
      exact ⟨i, z, g1, by omega, g3⟩
    · exact ⟨j, y, hk, Nat.le_refl _, hy, hid, fun i' z' g1 g2 g3 g4 => h ⟨i', z', g1, g2, g3, g4⟩⟩
theorem lastW_pos {l : List En} {floor seq : Int} (h : rightB l floor seq = true) {k : Nat} {x : En} {id : ByteArray} : ∀ {j : Nat}, k < j → l[k]? = some x → x.id = id → j < l.length → lastW (l.take j) id ≠ 0
  | 0, hk, _, _, _ => by omega
  | j + 1, hk, hx, hid, hj => by
    obtain ⟨y, hy⟩ : ∃ y, l[j]? = some y := ⟨_, List.getElem?_eq_getElem (by omega)⟩
    rw [lastW_take hy]
    split
    · rcases may_what (right_at h hy).2 with ⟨e, _⟩ | ⟨e, _⟩ <;> omega
    · rename_i hne
      by_cases e : k = j
      · subst e
        rw [hx] at hy
        cases hy
        exact absurd hid hne
      · exact lastW_pos h (by omega) hx hid (by omega)
/-- Of two entries of one id in a right trail the earlier one is no goodbye, and the later one is no beginning. -/
theorem right_two {l : List En} {floor seq : Int} (h : rightB l floor seq = true) {k j : Nat} {x y : En} (hkj : k < j) (hx : l[k]? = some x) (hy : l[j]? = some y) (hid : x.id = y.id) : x.what ≠ 3 ∧ y.what ≠ 1 := by
  have hjl := (List.getElem?_eq_some_iff.1 hy).1
  constructor
  · intro e
    obtain ⟨i, z, h1, h2, h3, h4, h5⟩ := next_of (j - k) j y (Nat.le_refl _) hkj hy hid.symm
    have hw := lastW_is hx rfl i h1 (by omega) (fun i' z' g1 g2 g3 => h5 i' z' g1 g2 g3)
    have hz := (right_at h h3).2
    rw [h4, hw, e] at hz
    rcases may_what hz with ⟨_, e'⟩ | ⟨_, e'⟩ <;> omega
  · intro e
    have hz := (right_at h hy).2
    rcases may_what hz with ⟨_, e0⟩ | ⟨e', _⟩
    · -- the last one ahead has a number that is not zero
      exact lastW_pos h hkj hx hid hjl e0
    · omega

/-! ### What the law counts -/
def nowL (was : Bool) (id : ByteArray) (sq : Int) (t : List En) : Bool := t.foldl (fun now e => if e.id = id ∧ sq < e.seq then e.what != 3 else now) was
def cntL (id : ByteArray) (sq : Int) (t : List En) : Nat := t.foldl (fun n e => if e.id = id ∧ sq < e.seq then n + 1 else n) 0
theorem nowL_take {was : Bool} {id : ByteArray} {sq : Int} {l : List En} {k : Nat} {x : En} (hx : l[k]? = some x) : nowL was id sq (l.take (k + 1)) = if x.id = id ∧ sq < x.seq then x.what != 3 else nowL was id sq (l.take k) := by
  rw [List.take_add_one, hx]
  simp [nowL]
theorem cntL_take {id : ByteArray} {sq : Int} {l : List En} {k : Nat} {x : En} (hx : l[k]? = some x) : cntL id sq (l.take (k + 1)) = if x.id = id ∧ sq < x.seq then cntL id sq (l.take k) + 1 else cntL id sq (l.take k) := by
  rw [List.take_add_one, hx]
  simp [cntL]
theorem cntL_le (id : ByteArray) (sq : Int) (l : List En) : ∀ k, k ≤ l.length → cntL id sq (l.take k) ≤ k
  | 0, _ => by simp [cntL]
  | k + 1, h => by
    obtain ⟨x, hx⟩ : ∃ x, l[k]? = some x := ⟨_, List.getElem?_eq_getElem (by omega)⟩
    have := cntL_le id sq l k (by omega)
    rw [cntL_take hx]
    split <;> omega
theorem nowL_none {was : Bool} {id : ByteArray} {sq : Int} : ∀ {l : List En}, (∀ e ∈ l, ¬ (e.id = id ∧ sq < e.seq)) → nowL was id sq l = was
  | [], _ => rfl
  | e :: r, h => by
    show nowL (if e.id = id ∧ sq < e.seq then e.what != 3 else was) id sq r = was
    rw [if_neg (h e (by simp))]
    exact nowL_none (fun x hx => h x (List.mem_cons_of_mem _ hx))
theorem nowL_true {id : ByteArray} {sq : Int} : ∀ {l : List En} {was : Bool}, (∀ e ∈ l, e.id = id ∧ sq < e.seq → e.what ≠ 3) → (was = true ∨ ∃ e ∈ l, e.id = id ∧ sq < e.seq) → nowL was id sq l = true
  | [], was, _, h => by
    rcases h with h | ⟨e, he, _⟩
    · exact h
    · cases he
  | e :: r, was, h, hh => by
    show nowL (if e.id = id ∧ sq < e.seq then e.what != 3 else was) id sq r = true
    refine nowL_true (fun x hx => h x (List.mem_cons_of_mem _ hx)) ?_
    by_cases hit : e.id = id ∧ sq < e.seq
    · rw [if_pos hit]
      exact .inl (by simpa using h e (by simp) hit)
    · rw [if_neg hit]
      rcases hh with hw | ⟨x, hx, hh⟩
      · exact .inl hw
      · rcases List.mem_cons.1 hx with rfl | hx
        · exact absurd hh hit
        · exact .inr ⟨x, hx, hh⟩
theorem nowL_append (was : Bool) (id : ByteArray) (sq : Int) (a b : List En) : nowL was id sq (a ++ b) = nowL (nowL was id sq a) id sq b := by simp [nowL]
theorem cntL_pos {id : ByteArray} {sq : Int} {l : List En} {i : Nat} {x : En} (hx : l[i]? = some x) (hh : x.id = id ∧ sq < x.seq) : ∀ k, i < k → k ≤ l.length → 0 < cntL id sq (l.take k)
  | 0, h, _ => by omega
  | k + 1, h, hk => by
    obtain ⟨y, hy⟩ : ∃ y, l[k]? = some y := ⟨_, List.getElem?_eq_getElem (by omega)⟩
    rw [cntL_take hy]
    by_cases e : i = k
    · subst e
      rw [hx] at hy
      cases hy
      rw [if_pos hh]
      omega
    · have := cntL_pos hx hh k (by omega) (by omega)
      split <;> omega

structure PastOk (l : List En) (sq : Int) (p : Pa) : Prop where
  old : ∀ (k : Nat) (x : En), l[k]? = some x → x.id = p.id → x.seq ≤ sq → (x.what != 3) = p.was
  new : ∀ (k : Nat) (x : En), l[k]? = some x → x.id = p.id → sq < x.seq → ((x.what == 1) == nowL p.was p.id sq (l.take k)) = false
  fin : nowL p.was p.id sq l = p.isb
  cnt : 0 < cntL p.id sq l

theorem past_ok {l : List En} {floor seq sq : Int} (h : rightB l floor seq = true) {i : Nat} {p : Pa} (hp : refAt sq l i = some p) : PastOk l sq p := by
  unfold refAt at hp
  cases hx : l[i]? with
  | none => rw [hx] at hp; cases hp
  | some x =>
    rw [hx] at hp
    dsimp only at hp
    by_cases h1 : x.seq ≤ sq
    · rw [if_pos h1] at hp; cases hp
    · rw [if_neg h1] at hp
      by_cases h2 : (l.drop (i + 1)).any (hitB sq x) = true
      · rw [if_pos h2] at hp; cases hp
      · rw [if_neg h2] at hp
        cases h3 : l.find? (hitB sq x) with
        | none => rw [h3] at hp; cases hp
        | some f =>
          rw [h3] at hp
          simp only [Option.map_some, Option.some.injEq] at hp
          subst hp
          obtain ⟨hfh, jf, hjf, hfe, hfno⟩ := List.find?_eq_some_iff_getElem.1 h3
          have hf : l[jf]? = some f := by rw [List.getElem?_eq_getElem hjf, hfe]
          unfold hitB at hfh
          simp only [Bool.and_eq_true, decide_eq_true_eq] at hfh
          have hil := (List.getElem?_eq_some_iff.1 hx).1
          refine ⟨fun k y hy hid hs => ?_, fun k y hy hid hs => ?_, ?_, ?_⟩
          · have a1 := (right_at h hy).1
            have a2 := (right_at h hf).1
            dsimp only at hid ⊢
            obtain ⟨b1, b2⟩ := right_two h (by omega : k < jf) hy hf (hid.trans hfh.1.symm)
            have c1 : (y.what != 3) = true := by simpa using b1
            have c2 : (f.what != 1) = true := by simpa using b2
            rw [c1, c2]
          · dsimp only at hid ⊢
            by_cases he : ∃ e ∈ l.take k, e.id = x.id ∧ sq < e.seq
            · obtain ⟨e, he1, he2⟩ := he
              obtain ⟨j, hj⟩ := List.getElem?_of_mem he1
              rw [List.getElem?_take] at hj
              split at hj
              · rename_i hjk
                rw [nowL_true (fun e' he' hh => by
                  obtain ⟨j', hj'⟩ := List.getElem?_of_mem he'
                  rw [List.getElem?_take] at hj'
                  split at hj'
                  · rename_i hjk'
                    exact (right_two h hjk' hj' hy (hh.1.trans hid.symm)).1
                  · cases hj') (.inr ⟨e, he1, he2⟩)]
                have := (right_two h hjk hj hy (he2.1.trans hid.symm)).2
                simpa using this
              · cases hj
            · rw [nowL_none (fun e he' hh => he ⟨e, he', hh⟩)]
              have hkf : k = jf := by
                rcases Nat.lt_trichotomy k jf with hlt | heq | hgt
                · have := hfno k hlt
                  have e2 : l[k]'(by omega) = y := by
                    rw [List.getElem?_eq_getElem (by omega)] at hy
                    exact Option.some.inj hy
                  rw [e2] at this
                  unfold hitB at this
                  simp [hid] at this
                  omega
                · exact heq
                · exact absurd ⟨f, List.mem_of_getElem? (by rw [List.getElem?_take_of_lt hgt]; exact hf), hfh⟩ he
              subst hkf
              rw [hf] at hy
              cases hy
              cases hb : (f.what == 1) <;> simp_all
          · dsimp only
            have hsplit : l = l.take (i + 1) ++ l.drop (i + 1) := (List.take_append_drop _ _).symm
            rw [hsplit, nowL_append, nowL_none (fun e he hh => by
              apply h2
              rw [List.any_eq_true]
              exact ⟨e, he, by unfold hitB; simpa using hh⟩), nowL_take hx, if_pos ⟨rfl, by omega⟩]
          · have := cntL_pos (sq := sq) hx ⟨rfl, by omega⟩ l.length hil (Nat.le_refl _)
            rwa [List.take_length] at this

theorem stable_rev : ∀ ys : List Pa, ys.reverse.Pairwise (fun a b => a.last < b.last) → IsStable cfP ys.reverse ys.reverse
  | [], _ => IsStable.nil
  | p :: ys, h => by
    rw [List.reverse_cons] at h ⊢
    rw [List.pairwise_append] at h
    have := IsStable.snoc cmpP (A := ys.reverse) (B := []) (by simpa using stable_rev ys h.1) (p := p) (fun a ha => by
      have := h.2.2 a (List.mem_of_getLast? ha) p (by simp)
      unfold cfP
      rw [if_neg (by omega), if_pos this]
      decide) (by simp)
    exact this
theorem stable_sorted (xs : List Pa) (h : xs.Pairwise (fun a b => a.last < b.last)) : IsStable cfP xs xs := by
  have := stable_rev xs.reverse (by rw [List.reverse_reverse]; exact h)
  rwa [List.reverse_reverse] at this
theorem refAt_last {sq : Int} {l : List En} {i : Nat} {p : Pa} (h : refAt sq l i = some p) : ∃ x, l[i]? = some x ∧ p.last = x.seq := by
  unfold refAt at h
  cases hx : l[i]? with
  | none => rw [hx] at h; cases h
  | some x =>
    rw [hx] at h
    dsimp only at h
    refine ⟨x, rfl, ?_⟩
    split at h
    · cases h
    · split at h
      · cases h
      · cases hf : l.find? (hitB sq x) with
        | none => rw [hf] at h; cases h
        | some f =>
          rw [hf] at h
          simp only [Option.map_some, Option.some.injEq] at h
          subst h
          rfl
theorem refUpTo_mem {sq : Int} {l : List En} {k : Nat} {p : Pa} (h : p ∈ refUpTo sq l k) : ∃ i, i < k ∧ refAt sq l i = some p := by
  unfold refUpTo at h
  obtain ⟨i, hi, hp⟩ := List.mem_filterMap.1 h
  exact ⟨i, List.mem_range.1 hi, hp⟩
theorem refUpTo_sorted {l : List En} {floor seq sq : Int} (h : rightB l floor seq = true) : ∀ k, (refUpTo sq l k).Pairwise (fun a b => a.last < b.last)
  | 0 => by simp [refUpTo]
  | k + 1 => by
    rw [refUpTo_succ, List.pairwise_append]
    refine ⟨refUpTo_sorted h k, ?_, fun a ha b hb => ?_⟩
    · cases refAt sq l k <;> simp
    · obtain ⟨i, hi, hp⟩ := refUpTo_mem ha
      have hb' : refAt sq l k = some b := by simpa using hb
      obtain ⟨x, hx, e1⟩ := refAt_last hp
      obtain ⟨y, hy, e2⟩ := refAt_last hb'
      have := (right_at h hx).1
      have := (right_at h hy).1
      omega
/-- What a right trail says since a number. -/
theorem since_right {l : List En} {floor seq sq : Int} (h : rightB l floor seq = true) {ys : List Pa} (hy : IsStable cfP (sinceL sq l) ys) : (∀ p ∈ ys, PastOk l sq p) ∧ ys.Pairwise (fun a b => a.last < b.last) := by
  rw [← refUpTo_all] at hy
  obtain rfl := IsStable.unique cmpP hy (stable_sorted _ (refUpTo_sorted h _))
  refine ⟨fun p hp => ?_, refUpTo_sorted h _⟩
  obtain ⟨i, _, hi⟩ := refUpTo_mem hp
  exact past_ok h hi
end Go.Proofs.Ytfpgkiajggfadaa
