import Derived.Test.YthgkgjcnmahacaaSc10
/- A slice of acts that came in reads as a list. -/
set_option linter.unusedSimpArgs false
set_option linter.unusedVariables false
set_option maxRecDepth 100000
namespace Go.Proofs.Ythgkgjcnmahacaa
open Go Go.RowKit Go.ChangeShapes Go.WideShapes Go.Deep

section
variable {H : Type} {enc : TypeId × Value → H} {W : World} {base b0 : Nat} {spare : Nat → Bool} {held : Bool}
theorem open_ops {v : Value} {d : DataW H} {p : List MemPlace} (hval : Value.okWide Try.prog W .any b0 78 v) (h : DataW.Trod enc Try.prog W base spare held 78 v d p) :
    ∃ ops : List (RO × JV), Rd W W.heap.size encOp 7 v (ops.map (·.1)) ∧ (∀ o ∈ ops, TreeOf W W.heap.size o.2 o.1.v) ∧ ((∀ n ∈ d.weights Try.prog 78, n ≤ 140737488351232) → ∀ o ∈ ops, OpOk o.1 o.2) := by
  obtain ⟨fuel, hf⟩ := h
  obtain ⟨a, len, cap, rfl⟩ := okWide_slice Try.underlying78 hval
  obtain ⟨pm, nm, cm, rms, e4, hr4, hd4⟩ := open_list (Q := fun (r : RO) (d : DataW H) => ∃ t, TreeOf W W.heap.size t r.v ∧ ((∀ n ∈ d.weights Try.prog 37, n ≤ 140737488351232) → OpOk r t)) Try.underlying78 cellsOp codecOp hf
    (fun m hm cs y hy => by
      obtain ⟨r, t, h1, h2, h3⟩ := open_op_cells hy
      exact ⟨r, h1, t, h2, h3⟩)
  have hcs : (Value.slice a len cap).cells.toList = [.slice a len cap] := rfl
  rw [hcs] at e4
  simp only [List.cons.injEq, Value.slice.injEq, and_true] at e4
  obtain ⟨rfl, rfl, rfl⟩ := e4
  have hM : ∀ i, i < rms.length → ∃ o : RO × JV, ∀ q, rms[i]? = some q → o.1 = q ∧ TreeOf W W.heap.size o.2 q.v ∧ ((∀ n ∈ d.weights Try.prog 78, n ≤ 140737488351232) → OpOk o.1 o.2) := by
    intro i hi
    obtain ⟨q, hq⟩ : ∃ q, rms[i]? = some q := ⟨_, List.getElem?_eq_getElem hi⟩
    rcases hd4 with ⟨rfl, _⟩ | ⟨es, sp, h1, h2, h3⟩
    · simp at hi
    · obtain ⟨d', hd, t, ht1, ht2⟩ := h3 i q hq
      refine ⟨(q, t), fun q' hq' => ?_⟩
      rw [hq] at hq'
      cases hq'
      refine ⟨rfl, ht1, fun hw => ht2 ?_⟩
      dsimp only at h1
      rw [h1] at hw
      exact (weights_slice Try.underlying78 hw).2 d' (List.mem_of_getElem? hd)
  obtain ⟨ps, hps, hps2⟩ := list_of rms.length hM
  have hmap : ps.map (·.1) = rms := by
    refine List.ext_getElem? fun i => ?_
    rw [List.getElem?_map]
    cases hi : ps[i]? with
    | none =>
      have h1 := List.getElem?_eq_none_iff.1 hi
      rw [List.getElem?_eq_none (by omega)]
      rfl
    | some o =>
      obtain ⟨q, hq⟩ : ∃ q, rms[i]? = some q := ⟨_, List.getElem?_eq_getElem (by have := (List.getElem?_eq_some_iff.1 hi).1; omega)⟩
      rw [hq]
      show some o.1 = some q
      rw [(hps2 i o hi q hq).1]
  have hall : ∀ o ∈ ps, TreeOf W W.heap.size o.2 o.1.v ∧ ((∀ n ∈ d.weights Try.prog 78, n ≤ 140737488351232) → OpOk o.1 o.2) := fun o ho => by
    obtain ⟨i, hi⟩ := List.getElem?_of_mem ho
    obtain ⟨q, hq⟩ : ∃ q, rms[i]? = some q := ⟨_, List.getElem?_eq_getElem (by have := (List.getElem?_eq_some_iff.1 hi).1; omega)⟩
    obtain ⟨h1, h2, h3⟩ := hps2 i o hi q hq
    rw [← h1] at h2
    exact ⟨h2, h3⟩
  exact ⟨ps, by rw [hmap]; exact hr4, fun o ho => (hall o ho).1, fun hw o ho => (hall o ho).2 hw⟩
end
end Go.Proofs.Ythgkgjcnmahacaa
