/- Between two vocabularies: a slice of the call's own, and the row that the sort turns. Plain laws over any program. -/
import Derived.Test.YthgkgjcnmahacaaRows1
import Derived.Test.YthgkgjcnmahacaaStab3
import Derived.Shelf.SlSortCmp.KitK
import Derived.Sort.OwnSorted
set_option linter.unusedSimpArgs false
set_option linter.unusedVariables false
namespace Go.Proofs.Ythgkgjcnmahacaa
open Go Go.Sort Go.RowKit Go.Proofs
variable {β : Type} [Inhabited β] {enc : β → List Value} {sz : Nat}

def encT (enc : β → List Value) (p : β × Nat) : List Value := enc p.1

theorem flatK_cells (C : Codec enc sz) (d : Array (β × Nat)) : flatK (encT enc) sz d = (cellsOf enc (d.toList.map (·.1))).toArray := by
  apply Array.ext
  · simp [cellsOf_len C]
  · intro t h1 h2
    simp only [size_flatK] at h1
    have hd : t / sz < d.size := (Nat.div_lt_iff_lt_mul C.pos).2 h1
    have hm : t % sz < sz := Nat.mod_lt _ C.pos
    have e1 := get_flatK (encT enc) sz d t h1
    rw [getElem!_pos _ t (by simpa using h1)] at e1
    rw [e1, getElem!_pos d _ hd]
    have hx : (d.toList.map (·.1))[t / sz]? = some d[t / sz].1 := by simp [hd]
    have := cellsOf_get C (d.toList.map (·.1)) _ _ hx (t % sz) hm
    rw [show t / sz * sz + t % sz = t by rw [Nat.mul_comm]; exact Nat.div_add_mod t sz] at this
    unfold encT
    rw [getElem!_pos _ _ (by rw [C.len]; exact hm)]
    simp only [List.getElem_toArray]
    rw [List.getElem?_eq_getElem (by simpa [cellsOf_len C] using h1), List.getElem?_eq_getElem (by rw [C.len]; exact hm)] at this
    exact (Option.some.inj this).symm

theorem holds_of_own (C : Codec enc sz) {w : World} {g : Nat} {cur : Array Value} {e : TypeId} {xs : List β} (hb : w.heap[g]? = some (.cells cur e (0, 0))) (ht : cur.toList.take (xs.length * sz) = cellsOf enc xs) : HoldsK (encT enc) sz w g 0 xs.zipIdx.toArray := by
  unfold HoldsK
  rw [flatK_cells C]
  have hz : xs.zipIdx.toArray.toList.map (·.1) = xs := by simp [List.zipIdx_map_fst]
  rw [hz]
  intro j hj
  have hj' : j < xs.length * sz := by simpa [cellsOf_len C] using hj
  refine ⟨?_, by simp [World.frozen?, hb]⟩
  have h1 : (cur.toList.take (xs.length * sz))[j]? = (cellsOf enc xs)[j]? := by rw [ht]
  rw [List.getElem?_take_of_lt hj'] at h1
  simp only [World.cell?, hb, Nat.zero_add]
  simp only [Option.isSome_none, Bool.false_eq_true, if_false]
  rw [← Array.getElem?_toList, h1, getElem!_pos _ j hj]
  simp at hj
  simp [hj]

theorem heap_put {w : World} {g n : Nat} {os : Array Obj} {cur : Array Value} {e : TypeId} {fr : Nat × Nat} (F : Array Value) (hb : w.heap[g]? = some (.cells cur e fr)) :
    (grow (putRow id (Sort.ahead w n) g 0 F) os).heap[g]? = some (.cells (putCells id 0 F cur) e fr) := by
  have hg : g < w.heap.size := (Array.getElem?_eq_some_iff.1 hb).1
  rw [heap_grow_old _ _ (by simpa using hg)]
  simp [putRow, mapBlock, Sort.ahead, Array.getElem?_modify, hb, onCells]

theorem grownBy_put {w : World} {g n : Nat} {os : Array Obj} (F : Array Value) : w.grownBy (grow (putRow id (Sort.ahead w n) g 0 F) os) (some g) := by
  refine ⟨rfl, rfl, rfl, by simp, fun k hk hne => ?_⟩
  rw [heap_grow_old _ _ (by simpa using hk)]
  have : g ≠ k := fun e => hne (by rw [e])
  simp [putRow, mapBlock, Sort.ahead, Array.getElem?_modify, this]

theorem take_put (cur : Array Value) (l : List Value) (h : l.length ≤ cur.size) : (putCells id 0 l.toArray cur).toList.take l.length = l := by
  apply List.ext_getElem?
  intro j
  by_cases hj : j < l.length
  · rw [List.getElem?_take_of_lt hj, Array.getElem?_toList]
    simp [putCells, hj, show j < cur.size by omega]
  · rw [List.getElem?_take_eq_none (by omega), List.getElem?_eq_none (by omega)]

/-- Behind the sort the same slice owns the list in its new order. -/
theorem own_of_swk (C : Codec enc sz) {w w' : World} {base g cap : Nat} {e : TypeId} {cur : Array Value} {xs : List β} {d' : Array (β × Nat)} (hs : d'.size = xs.length) (hbase : base ≤ g) (hb : w.heap[g]? = some (.cells cur e (0, 0))) (h1 : xs.length ≤ cap) (h2 : cap ≤ maxLen)
    (h3 : cur.size = cap * sz) (S : SWK (encT enc) sz w g 0 d' w') : Own w' base e enc sz (.slice (some ⟨g, 0, none⟩) xs.length cap) (d'.toList.map (·.1)) ∧ w.grownBy w' (some g) := by
  obtain ⟨n, os, rfl⟩ := S
  have hlen : (d'.toList.map (·.1)).length = xs.length := by simp [hs]
  unfold sortWorldK putRowK
  rw [flatK_cells C]
  refine ⟨⟨by rw [cellsOf_len C], .inr ⟨g, cap, _, by rw [hlen], hbase, heap_put _ hb, by rw [hlen]; exact h1, h2, by simp [putCells, h3], ?_⟩⟩, grownBy_put _⟩
  have hl := cellsOf_len C (d'.toList.map (·.1))
  rw [← hl]
  exact take_put cur _ (by rw [hl, hlen, h3]; exact Nat.mul_le_mul_right _ h1)
end Go.Proofs.Ythgkgjcnmahacaa
