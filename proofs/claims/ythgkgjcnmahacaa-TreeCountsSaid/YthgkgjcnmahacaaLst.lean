/- A slice that came in, however deep it lies, reads as a list. Plain laws over any program. -/
import Derived.Test.YthgkgjcnmahacaaRows1
import Derived.Deep.Slices
import Derived.Deep.Fields
import Derived.Deep.Strs
import Derived.ChangeSame
import Derived.SizedLaws
set_option linter.unusedSimpArgs false
set_option linter.unusedVariables false
namespace Go.Proofs.Ythgkgjcnmahacaa
open Go Go.RowKit Go.ChangeShapes Go.WideShapes Go.Deep

theorem cell_some {w : World} {a : Addr} {v : Value} (h : w.cell? a = some v) : a.spot = none ∧ a.block < w.heap.size := by
  unfold World.cell? at h
  split at h
  · rename_i c _ _ hb
    refine ⟨?_, (Array.getElem?_eq_some_iff.1 hb).1⟩
    split at h
    · cases h
    · rename_i hs; simpa using hs
  · cases h
theorem list_of {α : Type} {C : Nat → α → Prop} : ∀ n : Nat, (∀ i, i < n → ∃ e : α, C i e) → ∃ l : List α, l.length = n ∧ ∀ i e, l[i]? = some e → C i e
  | 0, _ => ⟨[], rfl, fun i e h => by simp at h⟩
  | n + 1, h => by
    obtain ⟨l, h1, h2⟩ := list_of n (fun i hi => h i (by omega))
    obtain ⟨e, he⟩ := h n (by omega)
    refine ⟨l ++ [e], by simp [h1], fun i x hx => ?_⟩
    by_cases hi : i < n
    · rw [List.getElem?_append_left (by omega)] at hx
      exact h2 i x hx
    · have : i = n := by
        have := (List.getElem?_eq_some_iff.1 hx).1
        simp at this; omega
      subst this
      rw [← h1, List.getElem?_append_right (Nat.le_refl _)] at hx
      simp at hx
      subst hx
      exact he

section
variable {H : Type} {E : TypeId × Value → H} {P : Program} {w : World} {base : Nat} {spare : Nat → Bool} {held : Bool} {α : Type} {enc : α → List Value} {sz : Nat}
theorem open_list {t e : TypeId} (ht : P.underlying t = some (.slice e)) (hC : P.cellsOf e = sz) (C : Codec enc sz) {Q : α → DataW H → Prop} {fuel : Nat} {cs : List Value} {x : DataW H × List MemPlace}
    (h : DataW.trod E P w base spare held fuel t cs = some x)
    (helem : ∀ n, n < fuel → ∀ cs y, DataW.trod E P w base spare held n e cs = some y → ∃ a : α, cs = enc a ∧ Q a y.1) :
    ∃ p n cap, ∃ xs : List α, cs = [.slice p n cap] ∧ Rd w w.heap.size enc sz (.slice p n cap) xs ∧
      ((xs = [] ∧ x.1 = .nil) ∨ ∃ es sp, x.1 = .slice es sp ∧ es.length = xs.length ∧ ∀ (i : Nat) (a : α), xs[i]? = some a → ∃ d, es[i]? = some d ∧ Q a d) := by
  rcases DataW.trod_slice ht h with ⟨rfl, rfl⟩ | ⟨a, len, cap, elems, rest, n, rfl, rfl, rfl, hb, hl, hm, hlen, hel, _, _⟩
  · exact ⟨none, 0, 0, [], rfl, Rd.nil _ _, .inl ⟨rfl, rfl⟩⟩
  · have h1 : ∀ i, i < len → ∃ x : α, w.cells? base (a.add (i * sz)) sz = some (enc x) ∧ ∃ d, elems[i]? = some d ∧ Q x d.1 := by
      intro i hi
      have h2 := hel i hi
      rw [hC] at h2
      obtain ⟨y, hy⟩ : ∃ y, elems[i]? = some y := ⟨_, List.getElem?_eq_getElem (by omega)⟩
      rw [hy] at h2
      cases hc : w.cells? base (a.add (i * sz)) sz with
      | none => rw [hc] at h2; cases h2
      | some cs' =>
        rw [hc] at h2
        obtain ⟨x, rfl, hq⟩ := helem n (Nat.lt_succ_self _) cs' y h2
        exact ⟨x, rfl, y, hy, hq⟩
    obtain ⟨xs, hxl, hxs⟩ := list_of len h1
    have hpos := C.pos
    refine ⟨some a, len, cap, xs, rfl, ⟨some a, cap, by rw [hxl], by omega, hm, by simp, fun a' ha h0 => ?_⟩, .inr ⟨elems.map (·.1), rest.map (·.1), rfl, by simp [hxl, hlen], fun i x hx => ?_⟩⟩
    · cases ha
      have hcell : ∀ i x, xs[i]? = some x → ∀ j, j < sz → w.cell? ((a.add (i * sz)).add j) = (enc x)[j]? := fun i x hx => (World.cells?_some (hxs i x hx).1).2.2
      obtain ⟨x0, hx0⟩ : ∃ x0, xs[0]? = some x0 := ⟨_, List.getElem?_eq_getElem h0⟩
      have h00 := hcell 0 x0 hx0 0 hpos
      rw [List.getElem?_eq_getElem (by rw [C.len]; exact hpos)] at h00
      obtain ⟨hs, hbl⟩ := cell_some h00
      obtain ⟨b, o, sp⟩ := a
      have e0 : ((⟨b, o, sp⟩ : Addr).add (0 * sz)).add 0 = ⟨b, o, sp⟩ := by simp [Addr.add]
      rw [e0] at hs hbl
      dsimp only at hs hbl
      subst hs
      refine ⟨b, o, rfl, hbl, fun i x hx j u hu => ?_⟩
      have hj : j < sz := by rw [← C.len x]; exact (List.getElem?_eq_some_iff.1 hu).1
      have := hcell i x hx j hj
      rw [add_eq, add_eq, hu] at this
      exact this
    · obtain ⟨_, d, hd, hq⟩ := hxs i x hx
      exact ⟨d.1, by rw [List.getElem?_map, hd]; rfl, hq⟩

theorem trodF2 {t : TypeId} {f0 f1 : Field} {fuel : Nat} {cs : List Value} {x : DataW H × List MemPlace} (ht : P.underlying t = some (.struct #[f0, f1])) (h : DataW.trod E P w base spare held fuel t cs = some x) :
    ∃ y0 y1 n, fuel = n + 1 ∧ x.1 = .agg [y0.1, y1.1] ∧ cs.length = P.cellsOf t ∧ DataW.trod E P w base spare held n f0.type ((cs.drop f0.offset).take (P.cellsOf f0.type)) = some y0 ∧ DataW.trod E P w base spare held n f1.type ((cs.drop f1.offset).take (P.cellsOf f1.type)) = some y1 := by
  obtain ⟨xs, n, hfu, rfl, hl, hlen, hf⟩ := DataW.trod_struct ht h
  match xs, hlen with
  | [y0, y1], _ => exact ⟨y0, y1, n, hfu, by simp, hl, by simpa using hf 0 f0 rfl, by simpa using hf 1 f1 rfl⟩
theorem trodF3 {t : TypeId} {f0 f1 f2 : Field} {fuel : Nat} {cs : List Value} {x : DataW H × List MemPlace} (ht : P.underlying t = some (.struct #[f0, f1, f2])) (h : DataW.trod E P w base spare held fuel t cs = some x) :
    ∃ y0 y1 y2 n, fuel = n + 1 ∧ x.1 = .agg [y0.1, y1.1, y2.1] ∧ cs.length = P.cellsOf t ∧ DataW.trod E P w base spare held n f0.type ((cs.drop f0.offset).take (P.cellsOf f0.type)) = some y0 ∧ DataW.trod E P w base spare held n f1.type ((cs.drop f1.offset).take (P.cellsOf f1.type)) = some y1 ∧ DataW.trod E P w base spare held n f2.type ((cs.drop f2.offset).take (P.cellsOf f2.type)) = some y2 := by
  obtain ⟨xs, n, hfu, rfl, hl, hlen, hf⟩ := DataW.trod_struct ht h
  match xs, hlen with
  | [y0, y1, y2], _ => exact ⟨y0, y1, y2, n, hfu, by simp, hl, by simpa using hf 0 f0 rfl, by simpa using hf 1 f1 rfl, by simpa using hf 2 f2 rfl⟩
theorem trodF4 {t : TypeId} {f0 f1 f2 f3 : Field} {fuel : Nat} {cs : List Value} {x : DataW H × List MemPlace} (ht : P.underlying t = some (.struct #[f0, f1, f2, f3])) (h : DataW.trod E P w base spare held fuel t cs = some x) :
    ∃ y0 y1 y2 y3 n, fuel = n + 1 ∧ x.1 = .agg [y0.1, y1.1, y2.1, y3.1] ∧ cs.length = P.cellsOf t ∧ DataW.trod E P w base spare held n f0.type ((cs.drop f0.offset).take (P.cellsOf f0.type)) = some y0 ∧ DataW.trod E P w base spare held n f1.type ((cs.drop f1.offset).take (P.cellsOf f1.type)) = some y1 ∧ DataW.trod E P w base spare held n f2.type ((cs.drop f2.offset).take (P.cellsOf f2.type)) = some y2 ∧ DataW.trod E P w base spare held n f3.type ((cs.drop f3.offset).take (P.cellsOf f3.type)) = some y3 := by
  obtain ⟨xs, n, hfu, rfl, hl, hlen, hf⟩ := DataW.trod_struct ht h
  match xs, hlen with
  | [y0, y1, y2, y3], _ => exact ⟨y0, y1, y2, y3, n, hfu, by simp, hl, by simpa using hf 0 f0 rfl, by simpa using hf 1 f1 rfl, by simpa using hf 2 f2 rfl, by simpa using hf 3 f3 rfl⟩
theorem trodF5 {t : TypeId} {f0 f1 f2 f3 f4 : Field} {fuel : Nat} {cs : List Value} {x : DataW H × List MemPlace} (ht : P.underlying t = some (.struct #[f0, f1, f2, f3, f4])) (h : DataW.trod E P w base spare held fuel t cs = some x) :
    ∃ y0 y1 y2 y3 y4 n, fuel = n + 1 ∧ x.1 = .agg [y0.1, y1.1, y2.1, y3.1, y4.1] ∧ cs.length = P.cellsOf t ∧ DataW.trod E P w base spare held n f0.type ((cs.drop f0.offset).take (P.cellsOf f0.type)) = some y0 ∧ DataW.trod E P w base spare held n f1.type ((cs.drop f1.offset).take (P.cellsOf f1.type)) = some y1 ∧ DataW.trod E P w base spare held n f2.type ((cs.drop f2.offset).take (P.cellsOf f2.type)) = some y2 ∧ DataW.trod E P w base spare held n f3.type ((cs.drop f3.offset).take (P.cellsOf f3.type)) = some y3 ∧ DataW.trod E P w base spare held n f4.type ((cs.drop f4.offset).take (P.cellsOf f4.type)) = some y4 := by
  obtain ⟨xs, n, hfu, rfl, hl, hlen, hf⟩ := DataW.trod_struct ht h
  match xs, hlen with
  | [y0, y1, y2, y3, y4], _ => exact ⟨y0, y1, y2, y3, y4, n, hfu, by simp, hl, by simpa using hf 0 f0 rfl, by simpa using hf 1 f1 rfl, by simpa using hf 2 f2 rfl, by simpa using hf 3 f3 rfl, by simpa using hf 4 f4 rfl⟩
theorem weights_slice {t e : TypeId} (ht : P.underlying t = some (.slice e)) {es sp : List (DataW H)} {R : Nat} (h : ∀ n ∈ (DataW.slice es sp).weights P t, n ≤ R) : es.length * P.bytesOf e ≤ R ∧ ∀ d ∈ es, ∀ n ∈ d.weights P e, n ≤ R := by
  simp only [DataW.weights, ht, List.mem_cons, List.mem_append] at h
  refine ⟨?_, fun d hd n hn => h n (.inr (.inl ?_))⟩
  · have := h _ (.inl rfl)
    rw [Nat.add_mul] at this
    omega
  · clear h
    induction es with
    | nil => cases hd
    | cons d' es ih =>
      rw [DataW.weightsAll, List.mem_append]
      rcases List.mem_cons.1 hd with rfl | hd
      · exact .inl hn
      · exact .inr (ih hd)
theorem weights_struct {t : TypeId} {fs : Array Field} (ht : P.underlying t = some (.struct fs)) {ds : List (DataW H)} {R : Nat} (h : ∀ n ∈ (DataW.agg ds).weights P t, n ≤ R) {i : Nat} {f : Field} {d : DataW H} (hf : fs[i]? = some f) (hd : ds[i]? = some d) :
    ∀ n ∈ d.weights P f.type, n ≤ R := by
  intro n hn
  refine h n ?_
  simp only [DataW.weights, ht]
  exact DataW.weights_mem_each (j := i) (t := f.type) (d := d) (by simp [List.getElem?_map, hf]) hd n hn
end
end Go.Proofs.Ythgkgjcnmahacaa
