/- An entry added to a right trail: what is left is right above the floor that is told, and says the same since it. Plain lists. -/
import Derived.Test.YtfpgkiajggfadaaLaw2
import Derived.Test.YtfpgkiajggfadaaPl1
set_option linter.unusedSimpArgs false
set_option linter.unusedVariables false
namespace Go.Proofs.Ytfpgkiajggfadaa

theorem lastW_two (a b : List En) (id : ByteArray) : lastW (a ++ b) id = lastW b id ∨ lastW b id = 0 := by
  unfold lastW
  rw [List.foldl_append]
  generalize a.foldl (fun a e => if e.id = id then e.what else a) 0 = x
  suffices ∀ (b : List En) (x y : Int), (b.foldl (fun a e => if e.id = id then e.what else a) x = b.foldl (fun a e => if e.id = id then e.what else a) y) ∨ (b.foldl (fun a e => if e.id = id then e.what else a) y = y) from this b x 0
  intro b
  induction b with
  | nil => intro x y; exact .inr rfl
  | cons e b ih =>
    intro x y
    simp only [List.foldl_cons]
    by_cases h : e.id = id
    · rw [if_pos h, if_pos h]; exact .inl rfl
    · rw [if_neg h, if_neg h]; exact ih x y
theorem may_zero {a b : Int} (h : mayB a b = true) : mayB 0 b = true := by
  rcases may_what h with ⟨rfl, _⟩ | ⟨rfl | rfl, _⟩ <;> decide

theorem right_hd {l : List En} {floor seq : Int} (h : rightB l floor seq = true) : 0 ≤ floor ∧ floor ≤ seq ∧ seq ≤ 9007199254740991 ∧ seq - floor = l.length := by
  unfold rightB headB at h
  simp only [Bool.and_eq_true, decide_eq_true_eq] at h
  exact h.1
/-- A right trail without its first entries is right. -/
theorem right_drop {l : List En} {floor seq : Int} (h : rightB l floor seq = true) (g : Nat) (hg : g ≤ l.length) : rightB (l.drop g) (floor + g) seq = true := by
  obtain ⟨h1, h2, h3, h4⟩ := right_hd h
  refine rightB_yes (by unfold headB; rw [decide_eq_true_eq, List.length_drop]; omega) fun k hk => ?_
  rw [List.length_drop] at hk
  obtain ⟨x, hx⟩ : ∃ x, l[g + k]? = some x := ⟨_, List.getElem?_eq_getElem (by omega)⟩
  obtain ⟨e1, e2⟩ := right_at h hx
  rw [okAt_of (x := x) (by rw [List.getElem?_drop]; exact hx)]
  simp only [Bool.and_eq_true, beq_iff_eq]
  refine ⟨by omega, ?_⟩
  have e3 : l.take (g + k) = l.take g ++ (l.drop g).take k := by rw [List.take_add]
  rw [e3] at e2
  rcases lastW_two (l.take g) ((l.drop g).take k) x.id with h5 | h5
  · rwa [h5] at e2
  · rw [h5]; exact may_zero e2
theorem addF_eq {l : List En} {floor keep : Int} {e : En} {seq : Int} (h : rightB (l ++ [e]) floor seq = true) : addF l floor keep e = floor + addGone l.length keep := by
  unfold addF
  split
  · rename_i h0; omega
  · rename_i h0
    have hlt : addGone l.length keep - 1 < (l ++ [e]).length := by unfold addGone; simp; omega
    obtain ⟨x, hx⟩ : ∃ x, (l ++ [e])[addGone l.length keep - 1]? = some x := ⟨_, List.getElem?_eq_getElem hlt⟩
    have := (right_at h hx).1
    rw [hx]
    simp only [Option.map_some, Option.getD_some]
    omega
theorem add_right {l : List En} {floor keep : Int} {e : En} {seq : Int} (h : rightB (l ++ [e]) floor seq = true) : rightB (addL l keep e) (addF l floor keep e) seq = true := by
  rw [addF_eq h]
  exact right_drop h _ (by unfold addGone; simp)
theorem addL_len (l : List En) (keep : Int) (e : En) : ((addL l keep e).length : Int) ≤ max keep 0 := by
  unfold addL addGone
  rw [List.length_drop, List.length_append, List.length_singleton]
  omega
theorem sinceL_skip (sq : Int) (b : List En) : ∀ a : List En, (∀ e ∈ a, e.seq ≤ sq) → sinceL sq (a ++ b) = sinceL sq b
  | [], _ => rfl
  | e :: a, h => by
    rw [List.cons_append, sinceL_cons, if_pos (h e (by simp))]
    exact sinceL_skip sq b a (fun x hx => h x (List.mem_cons_of_mem _ hx))
theorem add_since {l : List En} {floor keep : Int} {e : En} {seq : Int} (h : rightB (l ++ [e]) floor seq = true) : sinceL (addF l floor keep e) (addL l keep e) = sinceL (addF l floor keep e) (l ++ [e]) := by
  rw [addF_eq h]
  unfold addL
  generalize hg : addGone l.length keep = g
  conv => rhs; rw [← List.take_append_drop g (l ++ [e])]
  rw [sinceL_skip]
  intro x hx
  obtain ⟨i, hi⟩ := List.getElem?_of_mem hx
  rw [List.getElem?_take] at hi
  split at hi
  · rename_i hlt
    have := (right_at h hi).1
    omega
  · cases hi
theorem addF_ge {l : List En} {floor keep : Int} {e : En} {seq : Int} (h : rightB (l ++ [e]) floor seq = true) : floor ≤ addF l floor keep e ∧ addF l floor keep e ≤ seq := by
  rw [addF_eq h]
  obtain ⟨_, _, _, h4⟩ := right_hd h
  rw [List.length_append, List.length_singleton] at h4
  unfold addGone
  omega
end Go.Proofs.Ytfpgkiajggfadaa
