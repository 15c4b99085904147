/- Trees with a member put in, and without one: plain laws, and that they are the same. -/
import Derived.Test.YtfpgkiajggfadaaTAw
import Derived.Test.YtfpgkiajggfadaaRef7c
import Derived.Test.YtfpgkiajggfadaaRef7a
import Derived.Test.YtfpgkiajggfadaaFew4
set_option linter.unusedSimpArgs false
set_option linter.unusedVariables false
namespace Go.Proofs.Ytfpgkiajggfadaa
open Go.RowKit Go.OpenShut

/-- A map with a member put in; without it. -/
def JV.put (t : JV) (name : ByteArray) (x : JV) : JV := .mk 6 0 ⟨#[]⟩ [] (putM (t.place name) t.mem name x)
def JV.cut (t : JV) (name : ByteArray) : JV := .mk 6 0 ⟨#[]⟩ [] (cutM t.mem name)
theorem JV.Ok.memOk {t : JV} (h : t.Ok) : (∀ (i : Nat) p, t.mem[i]? = some p → p.1.size ≤ 140737488351232) ∧ (∀ (i : Nat) p, t.mem[i]? = some p → p.2.Ok) ∧ t.mem.length ≤ t.m.length ∧ t.m.length ≤ 1466015503658 := by
  cases h with
  | @mk k n s l m hk hn hs hl hm cl cs cm =>
    unfold JV.mem JV.m
    dsimp only
    split
    · exact ⟨cs, cm, Nat.le_refl _, hm⟩
    · exact ⟨fun i p h => by simp at h, fun i p h => by simp at h, Nat.zero_le _, hm⟩
theorem mapOk {ms : List (ByteArray × JV)} (h0 : ms.length ≤ 1466015503658) (h1 : ∀ p ∈ ms, p.1.size ≤ 140737488351232 ∧ p.2.Ok) : (JV.mk 6 0 ⟨#[]⟩ [] ms).Ok :=
  .mk (by decide) (by decide) (by decide) (by decide) h0 (fun i x h => by simp at h) (fun i p h => (h1 p (List.mem_of_getElem? h)).1) (fun i p h => (h1 p (List.mem_of_getElem? h)).2)
theorem JV.Ok.memMem {t : JV} (h : t.Ok) : ∀ p ∈ t.mem, p.1.size ≤ 140737488351232 ∧ p.2.Ok := fun p hp => by
  obtain ⟨i, hi⟩ := List.getElem?_of_mem hp
  exact ⟨h.memOk.1 i p hi, h.memOk.2.1 i p hi⟩
theorem put_ok {t x : JV} {name : ByteArray} (ot : t.Ok) (ox : x.Ok) (hn : name.size ≤ 140737488351232) (hl : t.m.length ≤ 10000) : (t.put name x).Ok := by
  have hl2 := ot.memOk.2.2.1
  have hm := ot.memMem
  unfold JV.put putM
  split
  · refine mapOk (by rw [List.length_set]; omega) (fun p hp => ?_)
    rcases List.mem_or_eq_of_mem_set hp with h | rfl
    · exact hm p h
    · exact ⟨hn, ox⟩
  · refine mapOk (by simp; omega) (fun p hp => ?_)
    rw [List.mem_append, List.mem_singleton] at hp
    rcases hp with h | rfl
    · exact hm p h
    · exact ⟨hn, ox⟩
theorem cut_ok {t : JV} {name : ByteArray} (ot : t.Ok) : (t.cut name).Ok := by
  refine mapOk ?_ (fun p hp => ot.memMem p (List.mem_filter.1 hp).1)
  have h1 := ot.memOk.2.2
  have h2 : (cutM t.mem name).length ≤ t.mem.length := List.length_filter_le _ _
  omega
theorem zero_ok : JV.zero.Ok := .mk (by decide) (by decide) (by decide) (by decide) (by decide) (fun i x h => by simp at h) (fun i p h => by simp at h) (fun i p h => by simp at h)
theorem get_ok {t : JV} {name : ByteArray} (ot : t.Ok) : ((t.get name).getD JV.zero).Ok := by
  unfold JV.get
  cases t.place name with
  | none => exact zero_ok
  | some i =>
    simp only [Option.bind_some]
    cases h : t.mem[i]? with
    | none => exact zero_ok
    | some p => exact ot.memOk.2.1 i p h

theorem get_put (t : JV) (name : ByteArray) (x : JV) : (t.put name x).get name = some x := by
  have hm : (t.put name x).mem = putM (t.place name) t.mem name x := rfl
  unfold JV.get
  rw [show (t.put name x).place name = (putM (t.place name) t.mem name x).findIdx? (fun p => decide (p.1 = name)) from rfl, hm]
  cases hp : t.place name with
  | some i =>
    have h0 := hp
    unfold JV.place at h0
    rw [List.findIdx?_eq_some_iff_getElem] at h0
    obtain ⟨h1, h2, h3⟩ := h0
    have : (putM (some i) t.mem name x).findIdx? (fun p => decide (p.1 = name)) = some i := by
      unfold putM
      refine find_at (x := (name, x)) (by simp [h1]) (by simp) (fun j y hj hy => ?_)
      rw [List.getElem?_set_ne (by omega)] at hy
      obtain ⟨hl, rfl⟩ := List.getElem?_eq_some_iff.1 hy
      simpa using h3 j hj
    rw [this]
    simp [putM, h1]
  | none =>
    have h0 := hp
    unfold JV.place at h0
    rw [List.findIdx?_eq_none_iff] at h0
    have : (putM none t.mem name x).findIdx? (fun p => decide (p.1 = name)) = some t.mem.length := by
      unfold putM
      refine find_at (x := (name, x)) (by simp) (by simp) (fun j y hj hy => ?_)
      rw [List.getElem?_append_left hj] at hy
      simpa using h0 y (List.mem_of_getElem? hy)
    rw [this]
    simp [putM]
theorem get_cut (t : JV) (name : ByteArray) : (t.cut name).get name = none := by
  have hp : (t.cut name).place name = none := by
    show (cutM t.mem name).findIdx? (fun p => decide (p.1 = name)) = none
    refine find_not (fun j y hy => ?_)
    have := (List.mem_filter.1 (List.mem_of_getElem? hy)).2
    simpa using this
  unfold JV.get
  rw [hp]
  rfl
theorem get_find (ms : List (ByteArray × JV)) (n : Int) (s : ByteArray) (l : List JV) (name : ByteArray) : (JV.mk 6 n s l ms).get name = (ms.find? (fun p => decide (p.1 = name))).map (·.2) := by
  unfold JV.get
  show (ms.findIdx? (fun p => decide (p.1 = name))).bind (fun i => ms[i]?.map (·.2)) = _
  induction ms with
  | nil => rfl
  | cons p ms ih =>
    rw [List.findIdx?_cons, List.find?_cons]
    by_cases h : p.1 = name
    · simp [h]
    · simp only [h, decide_false, Bool.false_eq_true, if_false]
      rw [← ih]
      cases ms.findIdx? (fun p => decide (p.1 = name)) <;> simp
theorem get_mem (t : JV) (name : ByteArray) : t.get name = (t.mem.find? (fun p => decide (p.1 = name))).map (·.2) := by
  rw [← get_find t.mem 0 ⟨#[]⟩ [] name]
  rfl
theorem get_put_ne (t : JV) (name other : ByteArray) (x : JV) (h : other ≠ name) : (t.put name x).get other = t.get other := by
  rw [get_mem, get_mem]
  show (List.find? _ (putM (t.place name) t.mem name x)).map (·.2) = _
  cases hp : t.place name with
  | some i =>
    have h0 := hp
    unfold JV.place at h0
    rw [List.findIdx?_eq_some_iff_getElem] at h0
    obtain ⟨h1, h2, _⟩ := h0
    have h2 : t.mem[i].1 = name := by simpa using h2
    unfold putM
    dsimp only
    congr 1
    have e1 : t.mem = t.mem.take i ++ t.mem[i] :: t.mem.drop (i + 1) := by rw [List.getElem_cons_drop, List.take_append_drop]
    have e2 : t.mem.set i (name, x) = t.mem.take i ++ (name, x) :: t.mem.drop (i + 1) := List.set_eq_take_append_cons_drop .. |>.trans (by rw [if_pos h1])
    rw [e2]
    conv => rhs; rw [e1]
    rw [List.find?_append, List.find?_append, List.find?_cons_of_neg (by simpa using fun e => h e.symm), List.find?_cons_of_neg (by simpa [h2] using fun e => h e.symm)]
  | none =>
    unfold putM
    dsimp only
    rw [List.find?_append, List.find?_cons_of_neg (by simpa using fun e => h e.symm)]
    simp
theorem get_cut_ne (t : JV) (name other : ByteArray) (h : other ≠ name) : (t.cut name).get other = t.get other := by
  rw [get_mem, get_mem]
  show (List.find? _ (cutM t.mem name)).map (·.2) = _
  unfold cutM
  congr 1
  rw [List.find?_filter]
  congr 1
  funext p
  by_cases e : p.1 = other
  · simp [e, h]
  · simp [e]

/-! ### Contracts in the laws' words -/
theorem same5_eq {t : JV} {r q : RV} {w : World} (h1 : TreeOf w w.heap.size t r) (h2 : TreeOf w w.heap.size t q) (ot : t.Ok) :
    Calls Try.prog 27 #[r.val, q.val] w (fun e w' => e = .returned (.bool true) ∧ Below w.heap.size w w') :=
  (same5_any _ t t r q w (Nat.le_refl _) h1 h2 ot ot).mono fun e w' ⟨b, he, hb, hw⟩ => ⟨by rw [he, hb.2 rfl], hw⟩
def ValRet (w : World) (t : JV) (e : Ending) (w' : World) : Prop := ∃ q : RV, e = .returned q.val ∧ TreeOf w' w'.heap.size t q ∧ Below w.heap.size w w'
theorem MapRet.val {w : World} {ms : List (ByteArray × JV)} {e : Ending} {w' : World} (h : MapRet w w.heap.size ms e w') : ValRet w (.mk 6 0 ⟨#[]⟩ [] ms) e w' := by
  obtain ⟨p, n, c, rms, he, ho, hms, hw⟩ := h
  exact ⟨_, he, TreeOf.map ho hms hw.size, hw⟩
theorem put_v {t x : JV} {r q : RV} {name : ByteArray} {w : World} (ht : TreeOf w w.heap.size t r) (ot : t.Ok) (hx : TreeOf w w.heap.size x q) :
    Calls Try.prog 28 #[r.val, .string name, q.val] w (ValRet w (t.put name x)) :=
  (with_any t x r q name w _ (Nat.le_refl _) ht ot hx (Nat.le_trans ot.memOk.2.2.1 ot.memOk.2.2.2)).mono fun _ _ h => h.val
theorem refPut_v {t x : JV} {r q : RV} {name : ByteArray} {w : World} (ht : TreeOf w w.heap.size t r) (ot : t.Ok) (hx : TreeOf w w.heap.size x q) :
    Calls Try.prog 29 #[r.val, .string name, q.val] w (ValRet w (t.put name x)) :=
  (refWith_any t x r q name w _ (Nat.le_refl _) ht ot hx).mono fun _ _ h => h.val
theorem cut_v {t : JV} {r : RV} {name : ByteArray} {w : World} (ht : TreeOf w w.heap.size t r) (ot : t.Ok) :
    Calls Try.prog 30 #[r.val, .string name] w (ValRet w (t.cut name)) :=
  (without_any t r name w _ (Nat.le_refl _) ht ot (Nat.le_trans ot.memOk.2.2.1 ot.memOk.2.2.2)).mono fun _ _ h => h.val
theorem refCut_v {t : JV} {r : RV} {name : ByteArray} {w : World} (ht : TreeOf w w.heap.size t r) (ot : t.Ok) :
    Calls Try.prog 31 #[r.val, .string name] w (ValRet w (t.cut name)) :=
  (refWithout_any t r name w _ (Nat.le_refl _) ht ot).mono fun _ _ h => h.val
def PairRet (w : World) (t : JV) (b : Bool) (e : Ending) (w' : World) : Prop := ∃ q : RV, e = .returned (.tuple #[q.val, .bool b]) ∧ TreeOf w' w'.heap.size t q ∧ Below w.heap.size w w'
theorem GetRet.pair {w : World} {o : Option JV} {e : Ending} {w' : World} (h : GetRet w o e w') : PairRet w (o.getD JV.zero) o.isSome e w' := by
  obtain ⟨r, b, he, rfl, hr, hw⟩ := h
  exact ⟨r, he, hr, hw⟩
theorem get_v {t : JV} {r : RV} {name : ByteArray} {w : World} (ht : TreeOf w w.heap.size t r) (ot : t.Ok) (o : Option JV) (ho : t.get name = o) :
    Calls Try.prog 25 #[r.val, .string name] w (PairRet w (o.getD JV.zero) o.isSome) :=
  (get_any t r name w ht ot).mono fun _ _ h => ho ▸ h.pair
theorem refGet_v {t : JV} {r : RV} {name : ByteArray} {w : World} (ht : TreeOf w w.heap.size t r) (ot : t.Ok) (o : Option JV) (ho : t.get name = o) :
    Calls Try.prog 26 #[r.val, .string name] w (PairRet w (o.getD JV.zero) o.isSome) :=
  (refGet_any t r name w ht ot).mono fun _ _ h => ho ▸ h.pair
theorem TreeOf.nm_eq {w : World} {B : Nat} {t : JV} {r : RV} (h : TreeOf w B t r) : t.m.length = r.nm := by
  cases h with
  | @mk _ l m rs rms hl el hcl hm em hcn hcm => have := rd_nlen hm; show m.length = _; omega
end Go.Proofs.Ytfpgkiajggfadaa
