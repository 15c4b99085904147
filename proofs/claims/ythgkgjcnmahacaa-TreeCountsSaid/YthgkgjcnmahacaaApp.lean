/- append onto a slice of the call's own, whatever the source (nil, empty or not), said of lists. Plain laws over any program. -/
import Derived.Test.YthgkgjcnmahacaaRows1
import Derived.Maps.AppendAt
import Derived.Deep.AppendLies
import Derived.RegionTactic
import Derived.OwnWalk
set_option linter.unusedSimpArgs false
set_option linter.unusedVariables false
namespace Go.Proofs.Ythgkgjcnmahacaa
open Go Go.RowKit

/-- The facts on a slice type that an append asks. -/
def SlT (P : Program) (t e : TypeId) (sz bytes : Nat) : Prop := P.underlying t = some (.slice e) ∧ ∃ i z, P.info? e = some i ∧ i.zero = some z ∧ i.size = sz ∧ i.bytes = bytes ∧ z.cells.size = sz
theorem SlT.mk {P : Program} {t e : TypeId} {sz bytes : Nat} {z : Value} (ht : P.underlying t = some (.slice e)) (hi : (P.info? e).map (fun i => (i.zero, i.size, i.bytes)) = some (some z, sz, bytes)) (hz : z.cells.size = sz) : SlT P t e sz bytes := by
  obtain ⟨i, h1, h2, h3, h4⟩ := info_parts hi
  exact ⟨ht, i, z, h1, h2, h3, h4, hz⟩

theorem heap_alloc_at {w : World} {o : Obj} {g : Nat} (h : g = w.heap.size) : (w.alloc o).heap[g]? = some o := by subst h; exact heap_alloc_new w o
theorem heap_alloc_lt {w : World} {o o' : Obj} {g : Nat} (h : g < w.heap.size) (h' : w.heap[g]? = some o') : (w.alloc o).heap[g]? = some o' := (Below.heap_alloc w o g h).trans h'
section
variable {P : Program} {α : Type} {enc : α → List Value} {sz bytes : Nat} {t e : TypeId}
theorem Rd.block {w : World} {B g : Nat} {te : TypeId} {xs : List α} {cs : Array Value} (C : Codec enc sz) (h : w.heap[g]? = some (.cells cs te (0, 0))) (hc : cs.toList = cellsOf enc xs) (hg : g < B) (hm : xs.length ≤ maxLen) : Rd w B enc sz (.slice (some ⟨g, 0, none⟩) xs.length xs.length) xs := by
  refine ⟨_, _, rfl, Nat.le_refl _, hm, (fun h => by cases h), fun a ha _ => ?_⟩
  cases ha
  refine ⟨g, 0, rfl, hg, fun i x hx j u hu => ?_⟩
  have hj : j < sz := by rw [← C.len x]; exact (List.getElem?_eq_some_iff.1 hu).1
  have h1 := cellsOf_get C xs i x hx j hj
  rw [cell_of_row w g _ cs te (0, 0) h, Nat.zero_add, ← Array.getElem?_toList, hc, h1, hu]
theorem Rd.one {w : World} {B g : Nat} {te : TypeId} {x : α} {cs : Array Value} (C : Codec enc sz) (h : w.heap[g]? = some (.cells cs te (0, 0))) (hc : cs.toList = enc x) (hg : g < B) : Rd w B enc sz (.slice (some ⟨g, 0, none⟩) 1 1) [x] :=
  Rd.block (xs := [x]) C h (by rw [cellsOf_single]; exact hc) hg (show 1 ≤ maxLen by decide)
theorem Own.made {w : World} {base : Nat} (h : base ≤ w.heap.size) : Own (w.alloc (.cells #[] e)) base e enc sz (.slice (some ⟨w.heap.size, 0, none⟩) 0 0) ([] : List α) :=
  World.ownsRow_made (base := base) (e := e) (size := sz) w #[] 0 h (Nat.zero_le _) (by simp)
/-- A block of the call's own that is known whole is owned. -/
theorem Own.block {w : World} {base g : Nat} {xs : List α} {cs : Array Value} {n : Nat} (C : Codec enc sz) (h : w.heap[g]? = some (.cells cs e (0, 0))) (hc : cs.toList = cellsOf enc xs) (hn : n = xs.length) (hg : base ≤ g) (hm : xs.length ≤ maxLen) : Own w base e enc sz (.slice (some ⟨g, 0, none⟩) n n) xs := by
  subst hn
  refine ⟨cellsOf_len C xs, .inr ⟨g, xs.length, cs, rfl, hg, h, Nat.le_refl _, hm, ?_, ?_⟩⟩
  · rw [← Array.length_toList, hc, cellsOf_len C]
  · rw [hc, ← cellsOf_len C, List.take_length]

theorem run_append_rd (S : SlT P t e sz bytes) (C : Codec enc sz) (w : World) (ty : TypeId) {base B : Nat} {v u : Value} {xs ys : List α} (hown : Own w base e enc sz v xs) (hr : Rd w B enc sz u ys)
    (h63 : xs.length + ys.length ≤ maxLen) (hbytes : (xs.length + ys.length) * bytes ≤ 140737488355328) (hbase : base ≤ w.heap.size) :
    ∃ v' w', (Builtin.append_ #[t, t] ty #[v, u]).run P w = .ok v' w' ∧ Own w' base e enc sz v' (xs ++ ys) ∧ w.grownBy w' v.ownBlock ∧ (v'.ownBlock = v.ownBlock ∨ v'.ownBlock = some w.heap.size) := by
  obtain ⟨ht, i, z, hi, hz, hs1, hs2, hzs⟩ := S
  obtain ⟨p, c, rfl, hc1, hc2, hc3, hp⟩ := hr
  have hO : w.ownsRow base e sz v xs.length (cellsOf enc xs) := hown
  rcases p with _ | a
  · have : ys = [] := List.eq_nil_of_length_eq_zero (by have := hc3 rfl; omega)
    subst this
    refine ⟨v, w, ?_, by rw [List.append_nil]; exact hown, World.grownBy.refl w _, .inl rfl⟩
    rcases hO.2 with ⟨rfl, hn⟩ | ⟨g, cap, cur, rfl, _, _, hnc, _⟩
    · simp [Builtin.append_, run_underlying ht, sizeOf, typeInfo, hi, Builtin.lenOf, Builtin.firstCells]
    · simp [Builtin.append_, run_underlying ht, sizeOf, typeInfo, hi, Builtin.lenOf, Builtin.firstCells, hnc, storeCells]
  · have hnews : ∀ j u, (cellsOf enc ys)[j]? = some u → w.cell? (a.add j) = some u := by
      intro j u hu
      by_cases h0 : 0 < ys.length
      · obtain ⟨b, o, rfl, hb, hrow⟩ := hp a rfl h0
        exact hrow.news C j u hu
      · have : ys = [] := List.eq_nil_of_length_eq_zero (by omega)
        subst this
        simp [cellsOf] at hu
    obtain ⟨v', w', hrun, h2, h3, _, h5⟩ := run_append_own_at (P := P) w base t ty e i z sz bytes ht hi hz hs1 hs2 hzs C.pos v xs.length (cellsOf enc xs) hO a ys.length c (cellsOf enc ys) (cellsOf_len C ys) hnews (cellsOf_one C ys) h63 hbytes hbase
    refine ⟨v', w', hrun, ?_, h3, h5⟩
    unfold Own
    rw [cellsOf_append, List.length_append]
    exact h2

theorem wp_append_rd {o : Oper} {a : Act} {K : Act → World → Prop} {Q : Exit → Act → World → Prop} (S : SlT P t e sz bytes) (C : Codec enc sz) (w : World) (s x : Operand)
    (ho : o.op = .call { callee := .builtin .append, args := #[s, x], argTypes := #[t, t] }) {base B : Nat} {v u : Value} {xs ys : List α} (hs : a.eval s = v) (hx : a.eval x = u) (hown : Own w base e enc sz v xs) (hr : Rd w B enc sz u ys)
    (h63 : xs.length + ys.length ≤ maxLen) (hbytes : (xs.length + ys.length) * bytes ≤ 140737488355328) (hbase : base ≤ w.heap.size)
    (h : ∀ v' w', Own w' base e enc sz v' (xs ++ ys) → w.grownBy w' v.ownBlock → (v'.ownBlock = v.ownBlock ∨ v'.ownBlock = some w.heap.size) → K (a.put o.dst v') w') : o.wp P a w K Q := by
  obtain ⟨v', w', hrun, h2, h3, h4⟩ := run_append_rd S C w o.type hown hr h63 hbytes hbase
  unfold Oper.wp execOp
  simp only [ho, resolve, invoke, builtin, Sem.run_bind, Sem.run_pure, Result.andThen_ok, List.map_toArray, List.map_cons, List.map_nil, hs, hx, hrun]
  exact h v' w' h2 h3 h4
theorem wpList_append_rd {ops : Array Oper} {rest : List Oper} {o : Oper} {a : Act} {Q : Exit → Act → World → Prop} (S : SlT P t e sz bytes) (C : Codec enc sz) (w : World) (hgd : o.guard = none) (s x : Operand)
    (ho : o.op = .call { callee := .builtin .append, args := #[s, x], argTypes := #[t, t] }) {base B : Nat} {v u : Value} {xs ys : List α} (hs : a.eval s = v) (hx : a.eval x = u) (hown : Own w base e enc sz v xs) (hr : Rd w B enc sz u ys)
    (h63 : xs.length + ys.length ≤ maxLen) (hbytes : (xs.length + ys.length) * bytes ≤ 140737488355328) (hbase : base ≤ w.heap.size)
    (h : ∀ v' w', Own w' base e enc sz v' (xs ++ ys) → w.grownBy w' v.ownBlock → (v'.ownBlock = v.ownBlock ∨ v'.ownBlock = some w.heap.size) → wpList P ops Q rest (a.put o.dst v') w') : wpList P ops Q (o :: rest) a w :=
  wpList_plain hgd fun _ hK => wp_append_rd S C w s x ho hs hx hown hr h63 hbytes hbase fun v' w' h2 h3 h4 => hK _ _ (h v' w' h2 h3 h4)
theorem step_append_rd {ops : Array Oper} {o : Oper} {a : Act} {K : Act → World → Prop} {Q : Exit → Act → World → Prop} {E : Prop} (S : SlT P t e sz bytes) (C : Codec enc sz) (w : World) (hgd : o.guard = none) (s x : Operand)
    (ho : o.op = .call { callee := .builtin .append, args := #[s, x], argTypes := #[t, t] }) {base B : Nat} {v u : Value} {xs ys : List α} (hs : a.eval s = v) (hx : a.eval x = u) (hown : Own w base e enc sz v xs) (hr : Rd w B enc sz u ys)
    (h63 : xs.length + ys.length ≤ maxLen) (hbytes : (xs.length + ys.length) * bytes ≤ 140737488355328) (hbase : base ≤ w.heap.size)
    (h : ∀ v' w', Own w' base e enc sz v' (xs ++ ys) → w.grownBy w' v.ownBlock → (v'.ownBlock = v.ownBlock ∨ v'.ownBlock = some w.heap.size) → K (a.put o.dst v') w') :
    if Region.wanted o (yielded ops a.tmps) = true then Oper.wp P o a w K Q else E := by
  have hw : Region.wanted o (yielded ops a.tmps) = true := by simp [Region.wanted, hgd]
  rw [if_pos hw]
  exact wp_append_rd S C w s x ho hs hx hown hr h63 hbytes hbase h
/-- What was appended to stays within the call's own blocks. -/
theorem Below.appended {base : Nat} {w w' w0 : World} {v : Value} {xs : List α} (hb : Below base w0 w) (hg : w.grownBy w' v.ownBlock) (hown : Own w base e enc sz v xs) (hbase : base ≤ w.heap.size) : Below base w0 w' :=
  hb.grown hg hbase (fun k e => (hown.lt k e).1)
end
end Go.Proofs.Ythgkgjcnmahacaa
