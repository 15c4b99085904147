/- A slice of entries that came in reads as a list. -/
import Derived.Test.YtfpgkiajggfadaaTrC
import Derived.ProofKit
import Derived.Deep.Slices
import Derived.Deep.Fields
import Derived.Deep.Strs
import Derived.ChangeSame
import Derived.Below
import Derived.SizedLaws
set_option linter.unusedSimpArgs false
set_option linter.unusedVariables false
namespace Go.Proofs.Ytfpgkiajggfadaa
open Go.ChangeShapes Go.WideShapes Go.Deep Go.RowKit Go.Lib

theorem cells2 : Try.prog.cellsOf 2 = 1 := by kernel_rfl
theorem cells3 : Try.prog.cellsOf 3 = 1 := by kernel_rfl
theorem cells9 : Try.prog.cellsOf 9 = 1 := by kernel_rfl
theorem cellsOf26 : Try.prog.cellsOf 26 = 3 := by kernel_rfl
theorem bytesOf26 : Try.prog.bytesOf 26 = 32 := by kernel_rfl

section
variable {H : Type} {enc : TypeId × Value → H} {W : World} {base b0 : Nat} {spare : Nat → Bool} {held : Bool}
theorem ents_list {C : Nat → En → Prop} : ∀ n : Nat, (∀ i, i < n → ∃ e : En, C i e) → ∃ l : List En, l.length = n ∧ ∀ i e, l[i]? = some e → C i e
  | 0, _ => ⟨[], rfl, fun i e h => by simp at h⟩
  | n + 1, h => by
    obtain ⟨l, h1, h2⟩ := ents_list n (fun i hi => h i (by omega))
    obtain ⟨e, he⟩ := h n (by omega)
    refine ⟨l ++ [e], by simp [h1], fun i x hx => ?_⟩
    by_cases hi : i < n
    · rw [List.getElem?_append_left (by omega)] at hx
      exact h2 i x hx
    · have : i = n := by
        have := (List.getElem?_eq_some_iff.1 hx).1
        simp at this; omega
      subst this
      rw [← h1, List.getElem?_append_right (Nat.le_refl _)] at hx
      simp at hx
      subst hx
      exact he
set_option maxRecDepth 100000 in
theorem open_ents {v : Value} {d : DataW H} {p : List MemPlace} (hval : Value.okWide Try.prog W .any b0 22 v) (h : DataW.Trod enc Try.prog W base spare held 22 v d p) :
    ∃ l : List En, RdE W W.heap.size v l ∧ (l = [] ∨ ∃ es sp, d = .slice es sp ∧ es.length = l.length) := by
  obtain ⟨fuel, hf⟩ := h
  obtain ⟨a, len, cap, rfl⟩ := okWide_slice Try.underlying22 hval
  have hcs : (Value.slice a len cap).cells.toList = [.slice a len cap] := rfl
  rw [hcs] at hf
  rcases open_slice Try.underlying22 hf with ⟨h1, _⟩ | ⟨ad, len', cap', m, nn, D, Pl, h1, hb, hl, hm, hmm, hx, hi⟩
  · simp only [List.cons.injEq, Value.slice.injEq, and_true] at h1
    obtain ⟨rfl, rfl, rfl⟩ := h1
    exact ⟨[], rdE_iff.2 ⟨by simp, Rd.nil _ _⟩, .inl rfl⟩
  · simp only [List.cons.injEq, Value.slice.injEq, and_true] at h1
    obtain ⟨rfl, rfl, rfl⟩ := h1
    have hle : len ≤ m := by rw [hmm]; split <;> omega
    obtain ⟨l, hll, hlc⟩ := ents_list (C := fun i e => e.ok ∧ W.cell? (ad.add (i * 3)) = some (.int .i64 e.seq) ∧ W.cell? (ad.add (i * 3 + 1)) = some (.string e.id) ∧ W.cell? (ad.add (i * 3 + 2)) = some (.int .i64 e.what)) len (fun i hil => by
      obtain ⟨cs, hc, ht⟩ := hi i (by omega)
      rw [cellsOf26] at hc
      obtain ⟨_, hlen, hat⟩ := World.cells?_some hc
      obtain ⟨x0, x1, x2, rfl⟩ : ∃ x0 x1 x2, cs = [x0, x1, x2] := by
        match cs, hlen with
        | [x0, x1, x2], _ => exact ⟨x0, x1, x2, rfl⟩
      obtain ⟨y0, y1, y2, n, _, _, t0, t1, t2⟩ := trod_struct3 Try.underlying26 ht
      dsimp only at t0 t1 t2
      rw [cells2] at t0
      rw [cells9] at t1
      rw [cells3] at t2
      obtain ⟨s, e0, _, w0⟩ := DataW.trod_int Try.underlying2 t0
      obtain ⟨t, e1, _, w1⟩ := DataW.trod_string Try.underlying9 t1
      obtain ⟨u, e2, _, w2⟩ := DataW.trod_int Try.underlying3 t2
      simp at e0 e1 e2
      subst e0 e1 e2
      have c0 := hat 0 (by omega)
      have c1 := hat 1 (by omega)
      have c2 := hat 2 (by omega)
      rw [Go.Deep.add_add] at c0 c1 c2
      exact ⟨⟨s, t, u⟩, ⟨w0, w1, w2⟩, c0, c1, c2⟩)
    have hwide : ad.spot = none ∧ ad.block < W.heap.size := by
      simp only [Value.okWide, Try.underlying22, Cell.okWide, Cell.ok, World.has] at hval
      obtain ⟨_, _, _, hs, row, cells, hsh, _⟩ := hval
      refine ⟨hs, ?_⟩
      by_cases hlt : ad.block < W.heap.size
      · exact hlt
      · rw [World.shape?, Array.getElem?_eq_none (by omega)] at hsh
        cases hsh
    obtain ⟨bk, off, sp⟩ := ad
    obtain ⟨rfl, hblt⟩ := hwide
    refine ⟨l, rdE_iff.2 ⟨fun e he => ?_, some ⟨bk, off, none⟩, cap, by rw [hll], by omega, hm, by simp, fun a ha => ?_⟩, .inr ⟨(List.range len).map D, (List.range (m - len)).map fun j => D (len + j), congrArg (·.1) hx, by simp [hll]⟩⟩
    · obtain ⟨i, hi'⟩ := List.getElem?_of_mem he
      exact (hlc i e hi').1
    · cases ha
      refine ⟨bk, off, rfl, hblt, fun i x hx j u hu => ?_⟩
      obtain ⟨_, c0, c1, c2⟩ := hlc i x hx
      simp only [add_eq] at c0 c1 c2
      have hj : j < 3 := by rw [← codecE.len x]; exact (List.getElem?_eq_some_iff.1 hu).1
      rcases j with _ | _ | _ | j
      · simp only [encE, List.getElem?_cons_zero, Option.some.injEq] at hu
        subst hu; exact c0
      · simp only [encE, List.getElem?_cons_zero, List.getElem?_cons_succ, Option.some.injEq] at hu
        subst hu; exact c1
      · simp only [encE, List.getElem?_cons_zero, List.getElem?_cons_succ, Option.some.injEq] at hu
        subst hu; exact c2
      · omega
end
end Go.Proofs.Ytfpgkiajggfadaa
