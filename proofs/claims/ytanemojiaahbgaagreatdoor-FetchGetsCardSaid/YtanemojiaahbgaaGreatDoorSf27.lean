import Derived.Test.YtanemojiaahbgaaGreatDoorSf26
/- What is told has lengths that may be. Plain laws. -/
set_option linter.unusedSimpArgs false
set_option linter.unusedVariables false
namespace Go.Proofs.YtanemojiaahbgaaGreatDoor
open Go Go.RowKit Go.OpenShut

theorem textJ_ok {s : ByteArray} (h : s.size ≤ 140737488351232) : (textJ s).Ok :=
  .mk (by decide) (by decide) h (by decide) (by decide) (fun i x h => by simp at h) (fun i x h => by simp at h) (fun i x h => by simp at h)
theorem listJ_ok {l : List JV} (hl : l.length ≤ 1759218604390) (h : ∀ x ∈ l, x.Ok) : (listJ l).Ok :=
  .mk (by decide) (by decide) (by decide) hl (by decide) (fun i x hx => h x (List.mem_of_getElem? hx)) (fun i x h => by simp at h) (fun i x h => by simp at h)
theorem objJ_ok {m : List (ByteArray × JV)} (hm : m.length ≤ 1466015503658) (hs : ∀ p ∈ m, p.1.size ≤ 140737488351232) (h : ∀ p ∈ m, p.2.Ok) : (objJ m).Ok :=
  .mk (by decide) (by decide) (by decide) (by decide) hm (fun i x h => by simp at h) (fun i p hp => hs p (List.mem_of_getElem? hp)) (fun i p hp => h p (List.mem_of_getElem? hp))
theorem ok_mem {t : JV} (h : t.Ok) : ∀ p ∈ t.m, p.1.size ≤ 140737488351232 ∧ p.2.Ok := by
  cases h with
  | mk _ _ _ _ _ _ cs cm =>
    intro p hp
    obtain ⟨i, hi⟩ := List.mem_iff_getElem?.1 hp
    exact ⟨cs i p hi, cm i p hi⟩
theorem ok_lst {t : JV} (h : t.Ok) : ∀ x ∈ t.l, x.Ok := by
  cases h with
  | mk _ _ _ _ _ cl _ _ =>
    intro x hx
    obtain ⟨i, hi⟩ := List.mem_iff_getElem?.1 hx
    exact cl i x hi
theorem ok_s {t : JV} (h : t.Ok) : t.s.size ≤ 140737488351232 := by
  cases h with | mk _ _ hs _ _ _ _ _ => exact hs
theorem showJ_ok {id : ByteArray} {v names : JV} (hid : id.size ≤ 140737488351232) (hv : v.Ok) (hm : v.m.length ≤ 90000) : (showJ id v names).Ok := by
  refine objJ_ok ?_ (fun p hp => ?_) (fun p hp => ?_)
  · have : (showM v names).length ≤ v.m.length := List.length_filter_le _ _
    simp only [List.length_cons]
    omega
  · rcases List.mem_cons.1 hp with rfl | hp
    · show idN.size ≤ _; decide
    · exact (ok_mem hv p (List.mem_filter.1 hp).1).1
  · rcases List.mem_cons.1 hp with rfl | hp
    · exact textJ_ok hid
    · exact (ok_mem hv p (List.mem_filter.1 hp).1).2
theorem mem_fold {x : ByteArray} : ∀ (l acc : List ByteArray), x ∈ l.foldl addU acc → x ∈ acc ∨ x ∈ l
  | [], acc, h => .inl h
  | y :: l, acc, h => by
    rcases mem_fold l (addU acc y) h with h | h
    · unfold addU at h
      split at h
      · exact .inl h
      · rcases List.mem_append.1 h with h | h
        · exact .inl h
        · exact .inr (by rw [List.mem_singleton.1 h]; exact List.mem_cons_self ..)
    · exact .inr (List.mem_cons_of_mem _ h)
theorem asked_ok {b : BoxD} {l1 : JV} (hb : ∀ p ∈ b.objs, p.1.size ≤ 140737488351232) (hl : l1.Ok) : ∀ x ∈ askedL b l1, x.size ≤ 140737488351232 := by
  intro x hx
  unfold askedL at hx
  split at hx
  · obtain ⟨p, hp, rfl⟩ := List.mem_map.1 hx
    exact hb p hp
  · rcases mem_fold _ _ hx with h | h
    · cases h
    · obtain ⟨y, hy, rfl⟩ := List.mem_map.1 h
      exact ok_s (ok_lst hl y hy)
theorem asked_len {b : BoxD} {l1 l2 : JV} (h : bigB b l1 l2 = false) : (askedL b l1).length ≤ 32 := by
  unfold bigB at h
  simp at h
  unfold askedL
  split
  · rename_i h1
    rw [List.length_map]
    exact h.2.2 h1
  · have := foldU_len (l1.l.map JV.s) []
    simp only [List.length_nil, List.length_map] at this
    omega
theorem getJ_ok {aid : ByteArray} {card : Bool} {b : BoxD} {l1 l2 : JV} (ha : aid.size ≤ 140737488351232) (hn : (Lit.int .i64 b.seq).wf = true) (hb : ∀ p ∈ b.objs, p.1.size ≤ 140737488351232 ∧ p.2.Ok ∧ p.2.m.length ≤ 90000) (hl : l1.Ok) (hbig : bigB b l1 l2 = false) : (getJ aid card b l1 l2).Ok := by
  have h32 := asked_len hbig
  have hask := asked_ok (fun p hp => (hb p hp).1) hl
  have hst : (stateB card b.seq).size ≤ 140737488351232 := by
    unfold stateB
    split
    · have h1 := numL_len hn
      rw [toB_size, List.length_cons]
      omega
    · decide
  have h3 : (listJ (shownTo b l2 (askedL b l1))).Ok := by
    refine listJ_ok (by have := shownTo_len b l2 (askedL b l1); omega) (fun x hx => ?_)
    obtain ⟨id, hid, h⟩ := List.mem_filterMap.1 hx
    cases hf : findJ b.objs id with
    | none => rw [hf] at h; cases h
    | some v =>
      rw [hf] at h
      cases h
      have hv : ∃ y ∈ b.objs, y.2 = v := by
        unfold findJ at hf
        cases hf2 : b.objs.find? (fun p => decide (p.1 = id)) with
        | none => rw [hf2] at hf; cases hf
        | some y => rw [hf2] at hf; cases hf; exact ⟨y, List.mem_of_find?_eq_some hf2, rfl⟩
      obtain ⟨y, hy, rfl⟩ := hv
      exact showJ_ok (hask id hid) (hb y hy).2.1 (hb y hy).2.2
  have h4 : (listJ ((missTo b (askedL b l1)).map textJ)).Ok := by
    refine listJ_ok (by have := missTo_len b (askedL b l1); rw [List.length_map]; omega) (fun x hx => ?_)
    obtain ⟨id, hid, rfl⟩ := List.mem_map.1 hx
    exact textJ_ok (hask id (List.mem_filter.1 hid).1)
  refine objJ_ok (by show 4 ≤ _; decide) (fun p hp => ?_) (fun p hp => ?_)
  · simp only [List.mem_cons, List.not_mem_nil, or_false] at hp
    rcases hp with rfl | rfl | rfl | rfl
    · show accIdN.size ≤ _; decide
    · show stateN.size ≤ _; decide
    · show listN.size ≤ _; decide
    · show notFoundN.size ≤ _; decide
  · simp only [List.mem_cons, List.not_mem_nil, or_false] at hp
    rcases hp with rfl | rfl | rfl | rfl
    · exact textJ_ok ha
    · exact textJ_ok hst
    · exact h3
    · exact h4
end Go.Proofs.YtanemojiaahbgaaGreatDoor
