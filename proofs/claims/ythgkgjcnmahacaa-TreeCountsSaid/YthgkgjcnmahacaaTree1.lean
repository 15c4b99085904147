/- A value of JSON that came in reads as a tree. -/
import Derived.Test.YthgkgjcnmahacaaTree0
import Derived.ProofKit
import Derived.Below
set_option linter.unusedSimpArgs false
set_option linter.unusedVariables false
set_option maxRecDepth 100000
namespace Go.Proofs.Ythgkgjcnmahacaa
open Go Go.RowKit Go.ChangeShapes Go.WideShapes Go.Deep

section
variable {H : Type} {enc : TypeId × Value → H} {W : World} {base b0 : Nat} {spare : Nat → Bool} {held : Bool}
theorem cel1 : Try.prog.cellsOf 2 = 1 := by kernel_rfl
theorem cel2 : Try.prog.cellsOf 3 = 1 := by kernel_rfl
theorem cel3 : Try.prog.cellsOf 9 = 1 := by kernel_rfl
theorem cel4 : Try.prog.cellsOf 22 = 1 := by kernel_rfl
theorem cel5 : Try.prog.cellsOf 23 = 1 := by kernel_rfl

theorem weights_string {t : TypeId} {s : ByteArray} {R : Nat} (h : ∀ n ∈ (DataW.lit (H := H) (.string s.data.toList)).weights Try.prog t, n ≤ R) : s.size ≤ R := by
  have := h s.data.toList.length (by simp [DataW.weights])
  simpa using this

theorem open_val : ∀ (fuel : Nat) (cs : List Value) (x : DataW H × List MemPlace), DataW.trod enc Try.prog W base spare held fuel 25 cs = some x →
    ∃ r t, cs = encV r ∧ TreeOf W W.heap.size t r ∧ ((∀ n ∈ x.1.weights Try.prog 25, n ≤ 140737488351232) → t.Ok) := by
  intro fuel
  induction fuel using Nat.strongRecOn with
  | ind fuel ih =>
    intro cs x h
    obtain ⟨y0, y1, y2, y3, y4, n, rfl, hx1, hlen, t0, t1, t2, t3, t4⟩ := trodF5 Try.underlying25 h
    rw [cellsV] at hlen
    obtain ⟨c0, c1, c2, c3, c4, rfl⟩ : ∃ c0 c1 c2 c3 c4, cs = [c0, c1, c2, c3, c4] := by
      match cs, hlen with
      | [a, b, c, d, e], _ => exact ⟨a, b, c, d, e, rfl⟩
    rw [hx1]
    dsimp only at t0 t1 t2 t3 t4
    rw [cel2] at t0
    rw [cel1] at t1
    rw [cel3] at t2
    rw [cel4] at t3
    rw [cel5] at t4
    simp only [List.drop_zero, List.drop_succ_cons, List.take_succ_cons, List.take_zero] at t0 t1 t2 t3 t4
    obtain ⟨k, e0, f0, w0⟩ := DataW.trod_int Try.underlying3 t0
    obtain ⟨n', e1, f1, w1⟩ := DataW.trod_int Try.underlying2 t1
    obtain ⟨s, e2, f2, w2⟩ := DataW.trod_string Try.underlying9 t2
    simp only [List.cons.injEq, and_true] at e0 e1 e2
    subst e0 e1 e2 f0 f1 f2
    obtain ⟨pl, nl, cl, rs, e3, hr3, hd3⟩ := open_list (Q := fun (r : RV) (d : DataW H) => ∃ t, TreeOf W W.heap.size t r ∧ ((∀ n ∈ d.weights Try.prog 25, n ≤ 140737488351232) → t.Ok)) Try.underlying22 cellsV codecV t3
      (fun m hm cs y hy => by
        obtain ⟨r, t, h1, h2⟩ := ih m (by omega) cs y hy
        exact ⟨r, h1, t, h2⟩)
    obtain ⟨pm, nm, cm, rms, e4, hr4, hd4⟩ := open_list (Q := fun (r : RM) (d : DataW H) => ∃ t, TreeOf W W.heap.size t r.v ∧ ((∀ n ∈ d.weights Try.prog 90, n ≤ 140737488351232) → r.name.size ≤ 140737488351232 ∧ t.Ok)) Try.underlying23 cellsM codecM t4
      (fun m hm cs y hy => by
        obtain ⟨z0, z1, j, rfl, hy1, hlen, u0, u1⟩ := trodF2 Try.underlying90 hy
        rw [cellsM] at hlen
        obtain ⟨a0, a1, a2, a3, a4, a5, rfl⟩ : ∃ a0 a1 a2 a3 a4 a5, cs = [a0, a1, a2, a3, a4, a5] := by
          match cs, hlen with
          | [a, b, c, d, e, f], _ => exact ⟨a, b, c, d, e, f, rfl⟩
        rw [hy1]
        dsimp only at u0 u1
        rw [cel3] at u0
        rw [cellsV] at u1
        simp only [List.drop_zero, List.drop_succ_cons, List.take_succ_cons, List.take_zero] at u0 u1
        obtain ⟨nm, g0, g1, g2⟩ := DataW.trod_string Try.underlying9 u0
        simp only [List.cons.injEq, and_true] at g0
        subst g0 g1
        obtain ⟨r, t, h1, h2, h3⟩ := ih j (by omega) _ _ u1
        refine ⟨⟨nm, r⟩, by rw [h1]; rfl, t, h2, fun hw => ⟨weights_string (weights_struct Try.underlying90 hw (i := 0) rfl rfl), h3 (weights_struct Try.underlying90 hw (i := 1) rfl rfl)⟩⟩)
    simp only [List.cons.injEq, and_true] at e3 e4
    subst e3 e4
    have nl_eq : nl = rs.length := by
      obtain ⟨_, _, e, _⟩ := hr3
      simp only [Value.slice.injEq] at e; exact e.2.1
    have nm_eq : nm = rms.length := by
      obtain ⟨_, _, e, _⟩ := hr4
      simp only [Value.slice.injEq] at e; exact e.2.1
    have hL : ∀ i, i < rs.length → ∃ t : JV, ∀ q, rs[i]? = some q → TreeOf W W.heap.size t q ∧ ((∀ n ∈ y3.1.weights Try.prog 22, n ≤ 140737488351232) → t.Ok) := by
      intro i hi
      obtain ⟨q, hq⟩ : ∃ q, rs[i]? = some q := ⟨_, List.getElem?_eq_getElem hi⟩
      rcases hd3 with ⟨rfl, _⟩ | ⟨es, sp, h1, h2, h3⟩
      · simp at hi
      · obtain ⟨d, hd, t, ht1, ht2⟩ := h3 i q hq
        refine ⟨t, fun q' hq' => ?_⟩
        rw [hq] at hq'
        cases hq'
        refine ⟨ht1, fun hw => ht2 ?_⟩
        rw [h1] at hw
        exact (weights_slice Try.underlying22 hw).2 d (List.mem_of_getElem? hd)
    have hM : ∀ i, i < rms.length → ∃ p : ByteArray × JV, ∀ q, rms[i]? = some q → p.1 = q.name ∧ TreeOf W W.heap.size p.2 q.v ∧ ((∀ n ∈ y4.1.weights Try.prog 23, n ≤ 140737488351232) → p.1.size ≤ 140737488351232 ∧ p.2.Ok) := by
      intro i hi
      obtain ⟨q, hq⟩ : ∃ q, rms[i]? = some q := ⟨_, List.getElem?_eq_getElem hi⟩
      rcases hd4 with ⟨rfl, _⟩ | ⟨es, sp, h1, h2, h3⟩
      · simp at hi
      · obtain ⟨d, hd, t, ht1, ht2⟩ := h3 i q hq
        refine ⟨(q.name, t), fun q' hq' => ?_⟩
        rw [hq] at hq'
        cases hq'
        refine ⟨rfl, ht1, fun hw => ht2 ?_⟩
        rw [h1] at hw
        exact (weights_slice Try.underlying23 hw).2 d (List.mem_of_getElem? hd)
    obtain ⟨ts, hts, hts2⟩ := list_of rs.length hL
    obtain ⟨ps, hps, hps2⟩ := list_of rms.length hM
    refine ⟨⟨k, n', s, pl, nl, cl, pm, nm, cm⟩, .mk k n' s ts ps, rfl, ?_, fun hw => ?_⟩
    · exact TreeOf.mk (r := ⟨k, n', s, pl, nl, cl, pm, nm, cm⟩) hr3 hts (fun i t q h1 h2 => (hts2 i t h1 q h2).1) hr4 hps (fun i p q h1 h2 => (hps2 i p h1 q h2).1) (fun i p q h1 h2 => (hps2 i p h1 q h2).2.1)
    · have v2 := weights_string (weights_struct Try.underlying25 hw (i := 2) rfl rfl)
      have v3 : ∀ n ∈ y3.1.weights Try.prog 22, n ≤ 140737488351232 := weights_struct Try.underlying25 hw (i := 3) rfl rfl
      have v4 : ∀ n ∈ y4.1.weights Try.prog 23, n ≤ 140737488351232 := weights_struct Try.underlying25 hw (i := 4) rfl rfl
      refine .mk w0 w1 v2 ?_ ?_ (fun i x hx => ?_) (fun i p hp => ?_) (fun i p hp => ?_)
      · rcases hd3 with ⟨rfl, _⟩ | ⟨es, sp, h1, h2, _⟩
        · rw [hts]; simp
        · rw [h1] at v3
          have := (weights_slice Try.underlying22 v3).1
          rw [bytesV] at this
          omega
      · rcases hd4 with ⟨rfl, _⟩ | ⟨es, sp, h1, h2, _⟩
        · rw [hps]; simp
        · rw [h1] at v4
          have := (weights_slice Try.underlying23 v4).1
          rw [bytesM] at this
          omega
      · obtain ⟨q, hq⟩ : ∃ q, rs[i]? = some q := ⟨_, List.getElem?_eq_getElem (by have := (List.getElem?_eq_some_iff.1 hx).1; omega)⟩
        exact (hts2 i x hx q hq).2 v3
      · obtain ⟨q, hq⟩ : ∃ q, rms[i]? = some q := ⟨_, List.getElem?_eq_getElem (by have := (List.getElem?_eq_some_iff.1 hp).1; omega)⟩
        exact ((hps2 i p hp q hq).2.2 v4).1
      · obtain ⟨q, hq⟩ : ∃ q, rms[i]? = some q := ⟨_, List.getElem?_eq_getElem (by have := (List.getElem?_eq_some_iff.1 hp).1; omega)⟩
        exact ((hps2 i p hp q hq).2.2 v4).2

theorem open_value {v : Value} {d : DataW H} {p : List MemPlace} (hval : Value.okWide Try.prog W .any b0 25 v) (h : DataW.Trod enc Try.prog W base spare held 25 v d p) :
    ∃ r t, v = RV.val r ∧ TreeOf W W.heap.size t r ∧ ((∀ n ∈ d.weights Try.prog 25, n ≤ 140737488351232) → t.Ok) := by
  obtain ⟨cs, rfl, hsz⟩ := okWide_struct Try.underlying25 hval
  obtain ⟨fuel, hf⟩ := h
  obtain ⟨r, t, h1, h2, h3⟩ := open_val fuel _ _ hf
  refine ⟨r, t, ?_, h2, h3⟩
  have : cs = (encV r).toArray := by
    apply Array.ext'
    simpa [Value.cells] using h1
  rw [this]
  rfl
end
#print axioms open_value
end Go.Proofs.Ythgkgjcnmahacaa
