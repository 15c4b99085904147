import Derived.Test.YtanemojiaahbgaaGreatDoorSf12
import Derived.Test.YtanemojiaahbgaaGreatDoorSf00
import Derived.Lib.Strings
import Derived.Lib.Bytealg
import Derived.Test.YtanemojiaahbgaaGreatDoorSf04
section
/- slices.SortStableFunc at a slice of the call's own. -/
set_option linter.unusedSimpArgs false
set_option linter.unusedVariables false
namespace Go.Proofs.YtanemojiaahbgaaGreatDoor
open Go.Shelf Go.RowKit Go.Lib Go.Sort
namespace SM
variable {β : Type} [Inhabited β]

def SortPost (w : World) (base : Nat) (enc : β → List Value) (cf : β → β → Int) (v : Value) (xs : List β) (e : Ending) (w' : World) : Prop :=
  e = .returned (.tuple #[]) ∧ ∃ ys, IsStable cf xs ys ∧ Own w' base 48 enc 6 v ys ∧ w.grownBy w' v.ownBlock

end SM
end Go.Proofs.YtanemojiaahbgaaGreatDoor
end

section
/- The comparison of members by their names. -/
set_option linter.unusedSimpArgs false
set_option linter.unusedVariables false
namespace Go.Proofs.YtanemojiaahbgaaGreatDoor
open Go.Shelf Go.RowKit Go.Lib Go.Sort

theorem cmpB_self : ∀ a : List UInt8, compareBytes a a = 0
  | [] => rfl
  | x :: a => by
    have h : ¬ x < x := UInt8.lt_irrefl x
    unfold compareBytes
    rw [if_neg h, if_neg h, cmpB_self a]
theorem cmpB_neg : ∀ a b : List UInt8, compareBytes b a = - compareBytes a b
  | [], [] => rfl
  | [], _ :: _ => rfl
  | _ :: _, [] => rfl
  | x :: a, y :: b => by
    have ih := cmpB_neg a b
    unfold compareBytes
    by_cases h1 : x < y
    · have h2 : ¬ y < x := fun h => UInt8.lt_irrefl x (UInt8.lt_trans h1 h)
      simp [h1, h2]
    · by_cases h2 : y < x
      · simp [h1, h2]
      · simp [h1, h2, ih]
theorem cmpB_eq : ∀ a b : List UInt8, compareBytes a b = 0 → a = b
  | [], [], _ => rfl
  | [], _ :: _, h => by simp [compareBytes] at h
  | _ :: _, [], h => by simp [compareBytes] at h
  | x :: a, y :: b, h => by
    unfold compareBytes at h
    by_cases h1 : x < y
    · simp [h1] at h
    · by_cases h2 : y < x
      · simp [h1, h2] at h
      · simp only [if_neg h1, if_neg h2] at h
        rw [cmpB_eq a b h, UInt8.le_antisymm (UInt8.not_lt.1 h2) (UInt8.not_lt.1 h1)]
theorem cmpB_ntrans : ∀ a b c : List UInt8, ¬ compareBytes a b < 0 → ¬ compareBytes b c < 0 → ¬ compareBytes a c < 0
  | [], [], c, _, h2 => h2
  | [], _ :: _, _, h1, _ => by simp [compareBytes] at h1
  | _ :: _, _, [], _, _ => by simp [compareBytes]
  | x :: a, [], z :: c, _, h2 => by simp [compareBytes] at h2
  | x :: a, y :: b, z :: c, h1, h2 => by
    have ih := cmpB_ntrans a b c
    unfold compareBytes at h1 h2 ⊢
    by_cases hxy : x < y
    · simp [hxy] at h1
    · by_cases hyz : y < z
      · simp [hyz] at h2
      · have hxz : ¬ x < z := fun h => by
          have h3 := UInt8.le_trans (UInt8.not_lt.1 hyz) (UInt8.not_lt.1 hxy)
          exact absurd h (UInt8.not_lt.2 h3)
        simp only [if_neg hxy, if_neg hyz, if_neg hxz] at h1 h2 ⊢
        by_cases hzx : z < x
        · simp [hzx]
        · have hyx : ¬ y < x := fun h => hzx (UInt8.lt_of_le_of_lt (UInt8.not_lt.1 hyz) h)
          have hzy : ¬ z < y := fun h => hzx (UInt8.lt_of_lt_of_le h (UInt8.not_lt.1 hxy))
          simp only [if_neg hyx, if_neg hzy, if_neg hzx] at h1 h2 ⊢
          exact ih h1 h2

/-- The order of names. -/
def cmpN (a b : ByteArray) : Int := compareBytes a.data.toList b.data.toList
theorem cmpN_self (a : ByteArray) : cmpN a a = 0 := cmpB_self _
theorem cmpN_neg (a b : ByteArray) : cmpN b a = - cmpN a b := cmpB_neg _ _
theorem cmpN_eq {a b : ByteArray} (h : cmpN a b = 0) : a = b := by
  have := cmpB_eq _ _ h
  obtain ⟨⟨x⟩⟩ := a
  obtain ⟨⟨y⟩⟩ := b
  simp only at this
  rw [this]
def cfM (x y : RM) : Int := cmpN x.name y.name
theorem cmpM : Cmp cfM where
  irrefl x := by unfold cfM; rw [cmpN_self]; decide
  asymm x y h := by unfold cfM at *; rw [cmpN_neg]; omega
  ntrans x y z h1 h2 := cmpB_ntrans _ _ _ h1 h2
/-- Members of a tree by their names. -/
def cfJ {γ : Type} (x y : ByteArray × γ) : Int := cmpN x.1 y.1
theorem cmpJ {γ : Type} : Cmp (cfJ (γ := γ)) where
  irrefl x := by unfold cfJ; rw [cmpN_self]; decide
  asymm x y h := by unfold cfJ at *; rw [cmpN_neg]; omega
  ntrans x y z h1 h2 := cmpB_ntrans _ _ _ h1 h2

end Go.Proofs.YtanemojiaahbgaaGreatDoor
end

section
/- A slice of the call's own: its tail cleared, its head kept; whole elements stored. Plain laws over any program. -/
set_option linter.unusedSimpArgs false
set_option linter.unusedVariables false
namespace Go.Proofs.YtanemojiaahbgaaGreatDoor
open Go Go.RowKit

theorem setCells_tail (g m : Nat) (e : TypeId) : ∀ (vs : List Value) (o : Nat) (w : World) (cur : Array Value), m ≤ o → w.heap[g]? = some (.cells cur e (0, 0)) →
    ∃ cur', (w.setCells g o vs).heap[g]? = some (.cells cur' e (0, 0)) ∧ cur'.size = cur.size ∧ cur'.toList.take m = cur.toList.take m ∧ w.grownBy (w.setCells g o vs) (some g)
  | [], o, w, cur, ho, h => ⟨cur, h, rfl, rfl, World.grownBy.refl w _⟩
  | v :: r, o, w, cur, ho, h => by
    obtain ⟨cur', h1, h2, h3, h4⟩ := setCells_tail g m e r (o + 1) (w.setCell ⟨g, o, none⟩ v) (cur.setIfInBounds o v) (by omega) (heap_setCell_same w g o cur e v h)
    refine ⟨cur', h1, by simpa using h2, ?_, ?_⟩
    · rw [h3, Array.toList_setIfInBounds, List.take_set_of_le ho]
    · have hg1 : w.grownBy (w.setCell ⟨g, o, none⟩ v) (some g) := ⟨rfl, rfl, rfl, by simp, fun k _ hk => heap_setCell_other w ⟨g, o, none⟩ k v (fun e => hk (by simp [e]))⟩
      exact hg1.trans h4
theorem zeroCells_mem (z : Array Value) (n : Nat) (h : ∀ u ∈ z.toList, u.oneCell' = true) : ∀ u ∈ (Builtin.zeroCells z n).toList, u.oneCell' = true := by
  intro u hu
  simp only [Builtin.zeroCells, Array.toList_map, Array.toList_range, List.mem_map, List.mem_range] at hu
  obtain ⟨i, hi, rfl⟩ := hu
  have hz : 0 < z.size := by
    rcases Nat.eq_zero_or_pos z.size with h0 | h0
    · rw [h0, Nat.mul_zero] at hi; omega
    · exact h0
  have hlt : i % z.size < z.size := Nat.mod_lt _ hz
  rw [getElem!_pos z (i % z.size) hlt]
  exact h _ (by simp)

section
variable {P : Program} {α : Type} {enc : α → List Value} {sz bytes : Nat} {t e : TypeId}
theorem Own.take {w : World} {base : Nat} {p : Option Addr} {n cap : Nat} {xs : List α} (C : Codec enc sz) (h : Own w base e enc sz (.slice p n cap) xs) (m : Nat) (hm : m ≤ n) : Own w base e enc sz (.slice p m cap) (xs.take m) := by
  obtain ⟨hl, h⟩ := h
  rcases h with ⟨hv, hn⟩ | ⟨g, cap', cur, hv, hg, hh, hnc, hcm, hcs, ht⟩
  · simp only [Value.slice.injEq] at hv
    obtain ⟨rfl, rfl, rfl⟩ := hv
    obtain rfl : m = 0 := by omega
    rw [List.take_zero]
    exact Own.nil w base e
  · simp only [Value.slice.injEq] at hv
    obtain ⟨rfl, rfl, rfl⟩ := hv
    have hlen : (xs.take m).length = m := by rw [List.length_take]; omega
    refine ⟨cellsOf_len C _, .inr ⟨g, cap, cur, by rw [hlen], hg, hh, by omega, hcm, hcs, ?_⟩⟩
    rw [hlen]
    have h1 : cellsOf enc xs = cellsOf enc (xs.take m) ++ cellsOf enc (xs.drop m) := by rw [← cellsOf_append, List.take_append_drop]
    have h2 : cur.toList.take (m * sz) = (cur.toList.take (xs.length * sz)).take (m * sz) := by
      rw [List.take_take, Nat.min_eq_left (Nat.mul_le_mul_right _ hm)]
    rw [h2, ht, h1]
    have h3 : (cellsOf enc (xs.take m)).length = m * sz := by rw [cellsOf_len C, hlen]
    rw [← h3, List.take_left]

/-- 'clear(s[i:])' leaves the head of a slice of the call's own. -/
theorem run_clear_own (S : SlT P t e sz bytes) (hone : ∀ i z, P.info? e = some i → i.zero = some z → ∀ u ∈ z.cells.toList, u.oneCell' = true) (C : Codec enc sz) (w : World) (ty : TypeId) {base : Nat} {p : Option Addr} {n cap m : Nat} {xs : List α}
    (h : Own w base e enc sz (.slice p n cap) xs) (hm : m ≤ n) {v : Value} (hv : v = sliced p m n cap sz) :
    ∃ w', (Builtin.clear_ #[t] ty #[v]).run P w = .ok (.tuple #[]) w' ∧ Own w' base e enc sz (.slice p m cap) (xs.take m) ∧ w.grownBy w' (Value.slice p n cap).ownBlock := by
  have hT := h.take C m hm
  obtain ⟨ht, i, z, hi, hz, hs1, hs2, hzs⟩ := S
  by_cases hmn : m = n
  · subst hmn
    refine ⟨w, ?_, hT, World.grownBy.refl w _⟩
    rw [hv]
    unfold sliced
    rw [Nat.sub_self]
    cases (if cap = m then p else p.map (·.add (m * sz))) <;> simp [Builtin.clear_, run_underlying ht]
  · obtain ⟨hl, h'⟩ := h
    rcases h' with ⟨hv', hn⟩ | ⟨g, cap', cur, hv', hg, hh, hnc, hcm, hcs, htk⟩
    · simp only [Value.slice.injEq] at hv'
      omega
    · simp only [Value.slice.injEq] at hv'
      obtain ⟨rfl, hnx, rfl⟩ := hv'
      have hsl : v = .slice (some ⟨g, m * sz, none⟩) (n - m) (cap - m) := by
        rw [hv]; unfold sliced
        rw [if_neg (by omega)]
        simp [add_eq]
      have hszn : (Builtin.zeroCells z.cells (n - m)).size = (n - m) * sz := by rw [size_zeroCells, hzs]
      have hcell : ∀ j, j < (n - m) * sz → (w.cell? ⟨g, m * sz + j, none⟩).isSome = true := by
        intro j hj
        rw [cell_of_row w g _ cur e (0, 0) hh]
        have h1 : (n - m) * sz + m * sz ≤ cap * sz := by rw [← Nat.add_mul]; exact Nat.mul_le_mul_right _ (by omega)
        rw [Array.getElem?_eq_getElem (by omega)]
        rfl
      have hst := run_storeCells_cells (P := P) g (m * sz) (Builtin.zeroCells z.cells (n - m)).toList 0 w (by intro j hj; rw [Array.length_toList, hszn] at hj; simpa using hcell j hj) (fun j hj => frozen_of_row w g _ cur e hh) (zeroCells_mem z.cells _ (hone i z hi hz))
      rw [Nat.add_zero] at hst
      obtain ⟨cur', h1, h2, h3, h4⟩ := setCells_tail g (m * sz) e (Builtin.zeroCells z.cells (n - m)).toList (m * sz) w cur (Nat.le_refl _) hh
      refine ⟨_, ?_, ?_, h4⟩
      · rw [hsl]
        obtain ⟨k, hk⟩ : ∃ k, n - m = k + 1 := ⟨n - m - 1, by omega⟩
        rw [hk] at hst ⊢
        simp [Builtin.clear_, run_underlying ht, zeroValue, typeInfo, hi, hz, hst]
      · have hlen : (xs.take m).length = m := by rw [List.length_take]; omega
        obtain ⟨hl2, h2'⟩ := hT
        rcases h2' with ⟨hv2, _⟩ | ⟨g2, cap2, cur2, hv2, _, hh2, _, _, _, ht2⟩
        · simp at hv2
        · simp only [Value.slice.injEq, Option.some.injEq, Addr.mk.injEq, and_true, true_and] at hv2
          obtain ⟨rfl, _, rfl⟩ := hv2
          rw [hh] at hh2
          cases hh2
          refine ⟨hl2, .inr ⟨g, cap, cur', by rw [hlen], hg, h1, by omega, hcm, by omega, ?_⟩⟩
          rw [hlen] at ht2 ⊢
          rw [h3]
          exact ht2
theorem wpList_clear_own {ops : Array Oper} {rest : List Oper} {o : Oper} {a : Act} {Q : Exit → Act → World → Prop} (S : SlT P t e sz bytes) (hone : ∀ i z, P.info? e = some i → i.zero = some z → ∀ u ∈ z.cells.toList, u.oneCell' = true) (C : Codec enc sz) (w : World) (hgd : o.guard = none) (s : Operand)
    (ho : o.op = .call { callee := .builtin .clear, args := #[s], argTypes := #[t] }) {base : Nat} {p : Option Addr} {n cap m : Nat} {xs : List α} {v : Value} (hs : a.eval s = v) (hv : v = sliced p m n cap sz) (hown : Own w base e enc sz (.slice p n cap) xs) (hm : m ≤ n)
    (h : ∀ w', Own w' base e enc sz (.slice p m cap) (xs.take m) → w.grownBy w' (Value.slice p n cap).ownBlock → wpList P ops Q rest (a.put o.dst (.tuple #[])) w') : wpList P ops Q (o :: rest) a w :=
  wpList_plain hgd fun K hK => by
    obtain ⟨w', hrun, h2, h3⟩ := run_clear_own S hone C w o.type hown hm hv
    unfold Oper.wp execOp
    simp only [ho, resolve, invoke, builtin, Sem.run_bind, Sem.run_pure, Result.andThen_ok, List.map_toArray, List.map_cons, List.map_nil, hs, hrun]
    exact hK _ _ (h w' h2 h3)
theorem run_slice_low (S : SlT P t e sz bytes) (p : Option Addr) (n cap m : Nat) (hm : m ≤ n) (W : World) : (Instr.sliceAt t (.slice p n cap) (some (.int .i64 m)) none none).run P W = .ok (sliced p m n cap sz) W := by
  obtain ⟨ht, i, z, hi, hz, hs1, hs2, hzs⟩ := S
  have he : P.elem t = e := by simp [Program.elem, ht]
  have ht' : P.underlying t = some (.slice (P.elem t)) := by rw [he]; exact ht
  rw [run_sliceAt_slice _ _ _ _ _ _ ht', run_slice_l W t p n cap ht' .i64 m (by omega) (by omega), he]
  simp [sizeOf, typeInfo, hi, hs1, Result.andThen]
theorem run_slice_high (S : SlT P t e sz bytes) (p : Option Addr) (n cap m : Nat) (hm : m ≤ cap) (W : World) : (Instr.sliceAt t (.slice p n cap) none (some (.int .i64 m)) none).run P W = .ok (.slice p m cap) W := by
  obtain ⟨ht, i, z, hi, hz, hs1, hs2, hzs⟩ := S
  have he : P.elem t = e := by simp [Program.elem, ht]
  have ht' : P.underlying t = some (.slice (P.elem t)) := by rw [he]; exact ht
  rw [run_sliceAt_slice _ _ _ _ _ _ ht', run_slice_h W t p n cap ht' .i64 m (by omega) (by omega), he]
  have hp : p.map (fun a => a.add 0) = p := by cases p <;> simp [Addr.add]
  have hsl : sliced p 0 m cap sz = .slice p m cap := by unfold sliced; simp [hp]
  simp [sizeOf, typeInfo, hi, hs1, Result.andThen, hsl]
end
end Go.Proofs.YtanemojiaahbgaaGreatDoor
end

section
/- tree.Without, walked: the library's DeleteFunc at members. -/
set_option linter.unusedSimpArgs false
set_option linter.unusedVariables false
namespace Go.Proofs.YtanemojiaahbgaaGreatDoor
open Go.RowKit Go.OpenShut

def nameB (name : ByteArray) (x : RM) : Bool := decide (x.name = name)

theorem Own.storedM {w : World} {base : Nat} {g n cap : Nat} {xs : List RM} (h : Own w base 48 encM 6 (.slice (some ⟨g, 0, none⟩) n cap) xs) {k : Nat} {x : RM} (hx : xs[k]? = some x) (nm : ByteArray) (q : RV) :
    Own ((((((w.setCell ⟨g, k * 6, none⟩ (.string nm)).setCell ⟨g, k * 6 + 1, none⟩ (.int .i64 q.k)).setCell ⟨g, k * 6 + 2, none⟩ (.int .i64 q.n)).setCell ⟨g, k * 6 + 3, none⟩ (.string q.s)).setCell ⟨g, k * 6 + 4, none⟩ (.slice q.pl q.nl q.cl)).setCell ⟨g, k * 6 + 5, none⟩ (.slice q.pm q.nm q.cm)) base 48 encM 6 (.slice (some ⟨g, 0, none⟩) n cap) (xs.set k ⟨nm, q⟩) ∧
    w.grownBy ((((((w.setCell ⟨g, k * 6, none⟩ (.string nm)).setCell ⟨g, k * 6 + 1, none⟩ (.int .i64 q.k)).setCell ⟨g, k * 6 + 2, none⟩ (.int .i64 q.n)).setCell ⟨g, k * 6 + 3, none⟩ (.string q.s)).setCell ⟨g, k * 6 + 4, none⟩ (.slice q.pl q.nl q.cl)).setCell ⟨g, k * 6 + 5, none⟩ (.slice q.pm q.nm q.cm)) (some g) := by
  have hk := (List.getElem?_eq_some_iff.1 hx).1
  have s1 := Own.storedAt codecM h (j := 0) (y := ⟨nm, x.v⟩) (u := .string nm) hx (by decide) rfl
  have s2 := Own.storedV s1.1 (k := k) (x := ⟨nm, x.v⟩) (by simp [List.getElem?_set, hk]) q
  simp only [List.set_set] at s2
  exact ⟨s2.1, s1.2.trans s2.2⟩
def MAt (W : World) (g : Nat) (x : RM) : Prop := W.heap[g]? = some (.cells #[.string x.name, .int .i64 x.v.k, .int .i64 x.v.n, .string x.v.s, .slice x.v.pl x.v.nl x.v.cl, .slice x.v.pm x.v.nm x.v.cm] 48 (0, 0))
theorem MAt.cell {W : World} {g : Nat} {r : RM} (h : MAt W g r) (j : Nat) {u : Value} (hu : (encM r)[j]? = some u) : W.cell? ⟨g, j, none⟩ = some u := by
  unfold MAt at h
  rw [cell_of_row W g j _ _ _ h, ← Array.getElem?_toList]
  exact hu
theorem MAt.under {W W' : World} {g B : Nat} {r : RM} (h : MAt W g r) (hb : Below B W W') (hg : g < B) : MAt W' g r := (hb.block g hg).trans h
theorem oneM : ∀ i z, Tryz.prog.info? 48 = some i → i.zero = some z → ∀ u ∈ z.cells.toList, u.oneCell' = true := by
  intro i z hi hz
  have h : (Tryz.prog.info? 48).map (fun i => (i.zero, i.size, i.bytes)) = some (some (.agg #[.string ByteArray.empty, .int .i64 0, .int .i64 0, .string ByteArray.empty, .slice none 0 0, .slice none 0 0]), 6, 96) := by kernel_rfl
  rw [hi] at h
  simp only [Option.map_some, Option.some.injEq, Prod.mk.injEq] at h
  rw [hz] at h
  simp only [Option.some.injEq] at h
  rw [h.1]
  intro u hu
  simp [Value.cells] at hu
  rcases hu with rfl | rfl | rfl | rfl | rfl | rfl <;> rfl

structure DelRel (rms : List RM) (name : ByteArray) (a b : Nat) (cur : List RM) : Prop where
  lt : a < b
  len : cur.length = rms.length
  head : cur.take a = (rms.take b).filter (fun x => !nameB name x)
  tail : cur.drop b = rms.drop b
theorem DelRel.start {rms : List RM} {name : ByteArray} {i : Nat} (h : rms.findIdx? (nameB name) = some i) : DelRel rms name i (i + 1) rms := by
  rw [List.findIdx?_eq_some_iff_getElem] at h
  obtain ⟨h1, h2, h3⟩ := h
  refine ⟨by omega, rfl, ?_, rfl⟩
  rw [List.take_add_one, List.getElem?_eq_getElem h1, List.filter_append]
  have e1 : (rms.take i).filter (fun x => !nameB name x) = rms.take i := by
    rw [List.filter_eq_self]
    intro x hx
    obtain ⟨j, hj⟩ := List.getElem?_of_mem hx
    rw [List.getElem?_take] at hj
    split at hj
    · have := h3 j (by assumption)
      rw [List.getElem?_eq_getElem (by omega)] at hj
      cases hj
      simpa using this
    · cases hj
  rw [e1]
  simp [h2]
theorem DelRel.at {rms cur : List RM} {name : ByteArray} {a b : Nat} (h : DelRel rms name a b cur) {x : RM} (hx : rms[b]? = some x) : cur[b]? = some x := by
  have h1 : (cur.drop b)[0]? = (rms.drop b)[0]? := by rw [h.tail]
  simpa [List.getElem?_drop, hx] using h1
theorem DelRel.skip {rms cur : List RM} {name : ByteArray} {a b : Nat} (h : DelRel rms name a b cur) {x : RM} (hx : rms[b]? = some x) (hn : nameB name x = true) : DelRel rms name a (b + 1) cur := by
  refine ⟨by have := h.lt; omega, h.len, ?_, ?_⟩
  · rw [List.take_add_one, hx, List.filter_append, ← h.head]
    simp [hn]
  · rw [← List.drop_drop (i := 1) (j := b), ← List.drop_drop (i := 1) (j := b), h.tail]
theorem DelRel.keep {rms cur : List RM} {name : ByteArray} {a b : Nat} (h : DelRel rms name a b cur) {x : RM} (hx : rms[b]? = some x) (hn : nameB name x = false) : DelRel rms name (a + 1) (b + 1) (cur.set a x) := by
  have hl := h.lt
  have hbl := (List.getElem?_eq_some_iff.1 hx).1
  refine ⟨by omega, by rw [List.length_set, h.len], ?_, ?_⟩
  · rw [List.take_add_one, List.take_set_of_le (Nat.le_refl _), List.getElem?_set_self (by have := h.len; omega), List.take_add_one, hx, List.filter_append, ← h.head]
    simp [hn]
  · rw [List.drop_set_of_lt (by omega), ← List.drop_drop (i := 1) (j := b), ← List.drop_drop (i := 1) (j := b), h.tail]
theorem DelRel.done {rms cur : List RM} {name : ByteArray} {a : Nat} (h : DelRel rms name a rms.length cur) : cur.take a = rms.filter (fun x => !nameB name x) := by
  have := h.head
  rwa [List.take_length] at this

end Go.Proofs.YtanemojiaahbgaaGreatDoor
end

section
/- Where an object of an id stands, walked: the library's BinarySearchFunc at objects. -/
set_option linter.unusedSimpArgs false
set_option linter.unusedVariables false
namespace Go.Proofs.YtanemojiaahbgaaGreatDoor
open Go.RowKit Go.OpenShut

/-- How many objects of lesser ids there are; whether the next one is of this id. -/
def lowN (os : List (ByteArray × JV)) (id : ByteArray) : Nat := (os.takeWhile (fun p => decide (cmpN p.1 id < 0))).length
def isAt (os : List (ByteArray × JV)) (id : ByteArray) : Bool := match os[lowN os id]? with
  | some p => decide (p.1 = id)
  | none => false
/-- Objects rise by their ids. -/
def Rising (os : List (ByteArray × JV)) : Prop := ∀ (i j : Nat) p q, i < j → os[i]? = some p → os[j]? = some q → cmpN p.1 q.1 < 0
theorem lowN_of : ∀ {os : List (ByteArray × JV)} {id : ByteArray} {a : Nat}, a ≤ os.length → (∀ k x, k < a → os[k]? = some x → cmpN x.1 id < 0) → (∀ k x, a ≤ k → os[k]? = some x → ¬ cmpN x.1 id < 0) → lowN os id = a
  | [], id, a, h, _, _ => by simp [lowN]; simp at h; omega
  | p :: os, id, 0, h, h1, h2 => by
    have := h2 0 p (Nat.le_refl _) rfl
    simp [lowN, List.takeWhile_cons, this]
  | p :: os, id, a + 1, h, h1, h2 => by
    have h0 := h1 0 p (by omega) rfl
    have ih := lowN_of (os := os) (id := id) (a := a) (by simpa using h) (fun k x hk hx => h1 (k + 1) x (by omega) (by simpa using hx)) (fun k x hk hx => h2 (k + 1) x (by omega) (by simpa using hx))
    unfold lowN at ih ⊢
    rw [List.takeWhile_cons, if_pos (by simpa using h0)]
    simp [ih]
theorem cmpN_lt_trans {a b c : ByteArray} (h1 : cmpN a b < 0) (h2 : ¬ cmpN c b < 0) : cmpN a c < 0 := by
  by_cases h : cmpN a c < 0
  · exact h
  · exact absurd h1 (cmpB_ntrans _ _ _ h h2)
theorem Rising.low {os : List (ByteArray × JV)} (hr : Rising os) {id : ByteArray} {h : Nat} {x : ByteArray × JV} (hx : os[h]? = some x) (hc : cmpN x.1 id < 0) : ∀ k y, k < h + 1 → os[k]? = some y → cmpN y.1 id < 0 := by
  intro k y hk hy
  by_cases e : k = h
  · subst e
    rw [hx] at hy
    cases hy
    exact hc
  · have := hr k h y x (by omega) hy hx
    by_cases g : cmpN y.1 id < 0
    · exact g
    · have h3 := cmpN_neg y.1 x.1
      have : ¬ cmpN y.1 x.1 < 0 := cmpB_ntrans _ _ _ g (by have h4 := cmpN_neg x.1 id; show ¬ cmpN id x.1 < 0; omega)
      omega
theorem Rising.high {os : List (ByteArray × JV)} (hr : Rising os) {id : ByteArray} {h : Nat} {x : ByteArray × JV} (hx : os[h]? = some x) (hc : ¬ cmpN x.1 id < 0) : ∀ k y, h ≤ k → os[k]? = some y → ¬ cmpN y.1 id < 0 := by
  intro k y hk hy
  by_cases e : k = h
  · subst e
    rw [hx] at hy
    cases hy
    exact hc
  · have h1 := hr h k x y (by omega) hx hy
    have h2 := cmpN_neg x.1 y.1
    exact cmpB_ntrans _ _ _ (by show ¬ cmpN y.1 x.1 < 0; omega) hc

def Lows (os : List (ByteArray × JV)) (id : ByteArray) (a : Nat) : Prop := ∀ k x, k < a → os[k]? = some x → cmpN x.1 id < 0
def Highs (os : List (ByteArray × JV)) (id : ByteArray) (b : Nat) : Prop := ∀ k x, b ≤ k → os[k]? = some x → ¬ cmpN x.1 id < 0
end Go.Proofs.YtanemojiaahbgaaGreatDoor
end

section
/- store.Find, walked: the library's IndexFunc at objects. -/
set_option linter.unusedSimpArgs false
set_option linter.unusedVariables false
namespace Go.Proofs.YtanemojiaahbgaaGreatDoor
open Go.RowKit Go.OpenShut

/-- A box in a block of its own. -/
def BoxAt (W : World) (g : Nat) (r : RB) : Prop := W.heap[g]? = some (.cells #[.slice r.po r.no r.co, .slice r.pt r.nt r.ct, .int .i64 r.sq, .int .i64 r.fl, .int .i64 r.kp] 25 (0, 0))
theorem BoxAt.cell {W : World} {g : Nat} {r : RB} (h : BoxAt W g r) (j : Nat) {u : Value} (hu : (encB r)[j]? = some u) : W.cell? ⟨g, j, none⟩ = some u := by
  unfold BoxAt at h
  rw [cell_of_row W g j _ _ _ h, ← Array.getElem?_toList]
  exact hu
theorem BoxAt.frozen {W : World} {g : Nat} {r : RB} (h : BoxAt W g r) (j : Nat) : W.frozen? ⟨g, j, none⟩ = false := by
  unfold BoxAt at h
  simp [World.frozen?, h]
theorem BoxAt.under {W W' : World} {g B : Nat} {r : RB} (h : BoxAt W g r) (hb : Below B W W') (hg : g < B) : BoxAt W' g r := (hb.block g hg).trans h
theorem BoxAt.lt {W : World} {g : Nat} {r : RB} (h : BoxAt W g r) : g < W.heap.size := (Array.getElem?_eq_some_iff.1 h).1

/-- The object of an id. -/
def findJ (os : List (ByteArray × JV)) (id : ByteArray) : Option JV := (os.find? (fun p => decide (p.1 = id))).map (·.2)
abbrev isIdV (g : Nat) : Value := .func (.func 57) #[] #[.pointer (some ⟨g, 0, none⟩)]

set_option maxRecDepth 100000 in
theorem isIdO_any (x : RM) (g : Nat) (name : ByteArray) (w : World) (hg : w.cell? ⟨g, 0, none⟩ = some (.string name)) :
    Calls Tryz.prog 57 #[x.val, .pointer (some ⟨g, 0, none⟩)] w fun e w' => e = .returned (.bool (decide (x.name = name))) ∧ Below w.heap.size w w' := by
  obtain ⟨nm, k, n, s, pl, nl, cl, pm, nm', cm⟩ := x
  dsimp only [RM.val]
  have hlt := (cell_some hg).2
  have hne := World.new_ne w ⟨g, 0, none⟩ hg
  have hB : Below w.heap.size w (w.alloc (.cells #[.string nm, .int .i64 k, .int .i64 n, .string s, .slice pl nl cl, .slice pm nm' cm] 40)) := (Below.refl _ _).alloc (Nat.le_refl _) _
  have hc := bcs hB hlt hg
  have hq := str_beq nm name
  have HQ := Lib.hid hq
  clear hq
  go_enter Tryz.func57, Tryz.ntmps57
  go_wp2_with fail
  go_ret
  exact ⟨by rw [← HQ.out]; rfl, hB⟩

set_option maxRecDepth 100000 in
set_option maxHeartbeats 1000000 in
theorem indexO_any (w : World) (p : Option Addr) (n c : Nat) (rms : List RM) (hv : Rd w w.heap.size encM 6 (.slice p n c) rms) (g : Nat) (name : ByteArray) (hg : w.cell? ⟨g, 0, none⟩ = some (.string name)) (hlen : rms.length ≤ 1466015503658) :
    Calls Tryz.prog 56 #[.slice p n c, isIdV g] w fun e w' => e = .returned (.int .i64 (placeI (rms.findIdx? (nameB name)))) ∧ Below w.heap.size w w' := by
  have hn := rd_nlen hv
  subst hn
  have HV := Lib.hid hv
  have hgl := (cell_some hg).2
  clear hv
  go_enter Tryz.func56, Tryz.ntmps56
  go_wp2_with fail
  go_loopw [8] (fun i wr => ∃ k : Nat, k ≤ rms.length ∧ i = .int .i64 k ∧ Hid (∀ (j : Nat) y, j < k → rms[j]? = some y → nameB name y = false) ∧ Below w.heap.size w wr) (fun i _ => rms.length - (intOf i).toNat)
  case atStart => exact ⟨0, Nat.zero_le _, rfl, fun j y h => by omega, Below.refl _ _⟩
  case round =>
    obtain ⟨k, hk, rfl, hno, hbr⟩ := hrel
    by_cases hlt : k < rms.length
    · obtain ⟨x, hx⟩ : ∃ x, rms[k]? = some x := ⟨_, List.getElem?_eq_getElem hlt⟩
      obtain ⟨b1, o1, rfl, hb1, hc1⟩ := rd_at' (HV.out.below hbr (Nat.le_refl _)) hx
      have f0 := hc1 0 _ rfl
      have f1 := hc1 1 _ rfl
      have f2 := hc1 2 _ rfl
      have f3 := hc1 3 _ rfl
      have f4 := hc1 4 _ rfl
      have f5 := hc1 5 _ rfl
      rw [Nat.add_zero] at f0
      have HX := Lib.hid hx
      have hz := hbr.size
      have HBR := Lib.hid hbr
      have hgr := Lib.hid (bcs hbr hgl hg)
      cases hnb : nameB name x with
      | true =>
        have HF := Lib.hid (find_at HX.out hnb hno.out)
        have HNB : Hid (decide (x.name = name) = true) := hnb
        clear hx hc1 hbr hnb hno hg
        go_wp2_with (go_at_call 57; refine (isIdO_any x g name _ hgr.out).mono ?_; rintro e w1 ⟨rfl, hb1'⟩; rw [HNB.out])
        go_ret
        exact ⟨ret_int (by rw [HF.out]; rfl), HBR.out.trans (hb1'.mono HBR.out.size)⟩
      | false =>
        have HNB : Hid (decide (x.name = name) = false) := hnb
        have HNX : Hid (∀ (j : Nat) y, j < k + 1 → rms[j]? = some y → nameB name y = false) := by
          intro j y hj hy
          by_cases e : j = k
          · subst e
            rw [hx] at hy
            cases hy
            exact hnb
          · exact hno.out j y (by omega) hy
        clear hx hc1 hbr hnb hno hg
        go_wp2_with (go_at_call 57; refine (isIdO_any x g name _ hgr.out).mono ?_; rintro e w1 ⟨rfl, hb1'⟩; rw [HNB.out])
        go_roundw
        case rel => exact ⟨k + 1, by omega, by go_num, HNX, HBR.out.trans (hb1'.mono HBR.out.size)⟩
        case measure => simp [intOf]; omega
    · obtain rfl : k = rms.length := by omega
      have HF := Lib.hid (find_not (p := nameB name) (l := rms) (fun j y hy => hno.out j y (List.getElem?_eq_some_iff.1 hy).1 hy))
      go_wp2_with fail
      go_ret
      exact ⟨ret_int (by rw [HF.out]; rfl), hbr⟩

theorem find_same {os : List (ByteArray × JV)} {rms : List RM} (hl : os.length = rms.length) (hn : ∀ (i : Nat) p q, os[i]? = some p → rms[i]? = some q → p.1 = q.name) (id : ByteArray) : os.findIdx? (fun p => decide (p.1 = id)) = rms.findIdx? (nameB id) := by
  induction os generalizing rms with
  | nil =>
    have := List.eq_nil_of_length_eq_zero hl.symm
    subst this
    rfl
  | cons p os ih =>
    cases rms with
    | nil => simp at hl
    | cons q rms =>
      have h0 := hn 0 p q rfl rfl
      have ih := ih (rms := rms) (by simpa using hl) (fun i a b h1 h2 => hn (i + 1) a b (by simpa using h1) (by simpa using h2))
      rw [List.findIdx?_cons, List.findIdx?_cons, ih]
      unfold nameB
      rw [h0]
theorem findJ_some {os : List (ByteArray × JV)} {id : ByteArray} {i : Nat} (h : os.findIdx? (fun p => decide (p.1 = id)) = some i) : ∃ p, os[i]? = some p ∧ findJ os id = some p.2 := by
  induction os generalizing i with
  | nil => simp at h
  | cons p os ih =>
    rw [List.findIdx?_cons] at h
    unfold findJ at ih ⊢
    by_cases e : p.1 = id
    · simp [e] at h
      subst h
      exact ⟨p, rfl, by simp [List.find?_cons, e]⟩
    · simp [e] at h
      obtain ⟨j, hj, rfl⟩ := h
      obtain ⟨q, h1, h2⟩ := ih hj
      exact ⟨q, by simpa using h1, by simpa [List.find?_cons, e] using h2⟩
theorem findJ_none {os : List (ByteArray × JV)} {id : ByteArray} (h : os.findIdx? (fun p => decide (p.1 = id)) = none) : findJ os id = none := by
  unfold findJ
  rw [List.findIdx?_eq_none_iff] at h
  rw [List.find?_eq_none.2 (fun x hx => by have := h x hx; simpa using this)]
  rfl

/-- What Find answers. -/
def FindRet (w : World) (o : Option JV) (e : Ending) (w' : World) : Prop :=
  ∃ r, e = .returned (.tuple #[RV.val r, .bool o.isSome]) ∧ TreeOf w' w'.heap.size (o.getD JV.zero) r ∧ Below w.heap.size w w'

set_option maxRecDepth 100000 in
set_option maxHeartbeats 2000000 in
theorem find_any (b : BoxD) (r : RB) (id : ByteArray) (w : World) (hb : BoxOf w w.heap.size b r) (ob : b.Ok) :
    Calls Tryz.prog 25 #[r.val, .string id] w (FindRet w (findJ b.objs id)) := by
  have ho := hb.objs
  have hlo := ob.objs
  obtain ⟨po, no, co, pt, nt, ct, sq, fl, kp⟩ := r
  dsimp only [RB.val] at *
  obtain ⟨rms, hrd, hms⟩ := ho
  have hn := rd_nlen hrd
  have hlm := hms.len
  have hA0 : BoxAt (((w.alloc (.cells #[.slice po no co, .slice pt nt ct, .int .i64 sq, .int .i64 fl, .int .i64 kp] 25)).alloc (.cells #[.string id] 9)).alloc (.cells #[.int .i64 0, .int .i64 0, .string ⟨#[]⟩, .slice none 0 0, .slice none 0 0] 31)) w.heap.size ⟨po, no, co, pt, nt, ct, sq, fl, kp⟩ := heap_alloc_lt (by simp; omega) (heap_alloc_lt (by simp) (heap_alloc_at rfl))
  have hS0 : (((w.alloc (.cells #[.slice po no co, .slice pt nt ct, .int .i64 sq, .int .i64 fl, .int .i64 kp] 25)).alloc (.cells #[.string id] 9)).alloc (.cells #[.int .i64 0, .int .i64 0, .string ⟨#[]⟩, .slice none 0 0, .slice none 0 0] 31)).heap[w.heap.size + 1]? = some (.cells #[.string id] 9 (0, 0)) := heap_alloc_lt (by simp) (heap_alloc_at (by simp))
  have hZ0 : VAt (((w.alloc (.cells #[.slice po no co, .slice pt nt ct, .int .i64 sq, .int .i64 fl, .int .i64 kp] 25)).alloc (.cells #[.string id] 9)).alloc (.cells #[.int .i64 0, .int .i64 0, .string ⟨#[]⟩, .slice none 0 0, .slice none 0 0] 31)) (w.heap.size + 1 + 1) RV.zero := heap_alloc_at (by simp)
  have hB0 : Below w.heap.size w (((w.alloc (.cells #[.slice po no co, .slice pt nt ct, .int .i64 sq, .int .i64 fl, .int .i64 kp] 25)).alloc (.cells #[.string id] 9)).alloc (.cells #[.int .i64 0, .int .i64 0, .string ⟨#[]⟩, .slice none 0 0, .slice none 0 0] 31)) := (below2 w _ _).alloc (by simp; omega) _
  have HRD := Lib.hid hrd
  have HMS := Lib.hid hms
  have HN : Hid (b.objs.length = no ∧ rms.length = no) := ⟨by omega, by omega⟩
  clear hb ob hrd hms hn hlm
  go_enter Tryz.func25, Tryz.ntmps25
  go_upto_region 1 with fail
  obtain ⟨W0, hW0⟩ : ∃ W0, (((w.alloc (.cells #[.slice po no co, .slice pt nt ct, .int .i64 sq, .int .i64 fl, .int .i64 kp] 25)).alloc (.cells #[.string id] 9)).alloc (.cells #[.int .i64 0, .int .i64 0, .string ⟨#[]⟩, .slice none 0 0, .slice none 0 0] 31)) = W0 := ⟨_, rfl⟩
  rw [hW0] at hA0 hS0 hZ0 hB0 ⊢
  clear hW0
  have c0 := hA0.cell 0 rfl
  have hs0 : W0.cell? ⟨w.heap.size + 1, 0, none⟩ = some (.string id) := by rw [cell_of_row W0 _ 0 _ _ _ hS0]; rfl
  have HS := Lib.hid hs0
  have HC := Lib.hid (indexO_any W0 po no co rms (HRD.out.below hB0 hB0.size) (w.heap.size + 1) id HS.out (by have := HN.out; omega))
  have HB := Lib.hid hB0
  clear hs0 hB0 hS0
  go_upto_region 2 with (go_at_call 56; refine HC.out.mono ?_; rintro e w1 ⟨rfl, hb1⟩)
  have hz0 := hZ0.lt
  have HA1 := hA0.under hb1 hA0.lt
  have HZ1 := hZ0.under hb1 hz0
  have HB1 := Lib.hid (HB.out.trans (hb1.mono HB.out.size))
  have hz1 := HZ1.lt
  have c0 := HA1.cell 0 rfl
  dsimp only at c0
  have z0 := HZ1.cell 0 rfl
  have z1 := HZ1.cell 1 rfl
  have z2 := HZ1.cell 2 rfl
  have z3 := HZ1.cell 3 rfl
  have z4 := HZ1.cell 4 rfl
  have y0 := HZ1.frozen 0
  have y1 := HZ1.frozen 1
  have y2 := HZ1.frozen 2
  have y3 := HZ1.frozen 3
  have y4 := HZ1.frozen 4
  dsimp only [RV.zero] at z0 z1 z2 z3 z4
  have HZ := Lib.hid HZ1
  clear HA1 HZ1 hA0 hZ0 hb1 HC HS hz0
  cases hf : rms.findIdx? (nameB id) with
  | none =>
    have HG : Hid (findJ b.objs id = none) := findJ_none (by rw [find_same (by have := HN.out; omega) HMS.out.name]; exact hf)
    have hn1 : placeI (none : Option Nat) = -1 := rfl
    rw [hn1]
    clear hf hn1
    go_wp2_with fail
    have HZ2 := HZ.out.stored RV.zero
    refine bodyPost_ret (v := .tuple #[RV.val RV.zero, .bool false]) (by simp [results, Tryz.results25, go_sem, RV.zero, z0, z1, z2, z3, z4]) rfl ⟨RV.zero, by rw [HG.out]; rfl, by rw [HG.out]; exact TreeOf.zero _ _, Below.stored HB1.out (by omega) RV.zero⟩
  | some i =>
    obtain ⟨p, hp, hg⟩ := findJ_some (by rw [find_same (by have := HN.out; omega) HMS.out.name]; exact hf)
    have HG := Lib.hid hg
    have hi := (List.getElem?_eq_some_iff.1 hp).1
    obtain ⟨q, hq⟩ : ∃ q, rms[i]? = some q := ⟨_, List.getElem?_eq_getElem (by have := HN.out; omega)⟩
    have hTq := HMS.out.val i p q hp hq
    have HTq := Lib.hid (hTq.under HB1.out (Nat.le_refl _))
    obtain ⟨b1, o1, rfl, hb1, hc1⟩ := rd_at' (HRD.out.below HB1.out (Nat.le_refl _)) hq
    have f0 := hc1 0 _ rfl
    have f1 := hc1 1 _ rfl
    have f2 := hc1 2 _ rfl
    have f3 := hc1 3 _ rfl
    have f4 := hc1 4 _ rfl
    have f5 := hc1 5 _ rfl
    have hn1 : placeI (some i) = (i : Int) := rfl
    rw [hn1]
    have hi0 : (0 : Int) ≤ (i : Int) := Int.natCast_nonneg _
    have hi1 : (i : Int) < (no : Int) := by have := HN.out; omega
    clear hf hp hg hq hTq hc1 hn1
    go_wp2_with fail
    have HZ2 := HZ.out.stored q.v
    refine bodyPost_ret (v := .tuple #[RV.val q.v, .bool true]) (by simp [results, Tryz.results25, go_sem, z0, z1, z2, z3, z4]) rfl ⟨q.v, by rw [HG.out]; rfl, ?_, Below.stored HB1.out (by omega) q.v⟩
    rw [HG.out]
    exact HTq.out.under (Below.stored (Below.refl _ _) (by omega) q.v) (by have := HB1.out.size; simp; omega)
end Go.Proofs.YtanemojiaahbgaaGreatDoor
end

section
/- store.Ids, walked. -/
set_option linter.unusedSimpArgs false
set_option linter.unusedVariables false
namespace Go.Proofs.YtanemojiaahbgaaGreatDoor
open Go.RowKit Go.OpenShut

def encS (s : ByteArray) : List Value := [.string s]
theorem codecS : Codec encS 1 := ⟨fun _ => rfl, fun x u hu => by
  simp only [encS, List.mem_cons, List.not_mem_nil, or_false] at hu
  subst hu; rfl, by decide⟩
theorem slS : SlT Tryz.prog 41 9 1 16 := SlT.mk (z := .string ByteArray.empty) Tryz.underlying41 (by kernel_rfl) rfl
def IdsRet (w : World) (l : List ByteArray) (e : Ending) (w' : World) : Prop := ∃ u, e = .returned u ∧ Own w' w.heap.size 9 encS 1 u l ∧ Below w.heap.size w w'

set_option maxRecDepth 100000 in
set_option maxHeartbeats 2000000 in
theorem ids_any (b : BoxD) (r : RB) (w : World) (hb : BoxOf w w.heap.size b r) (ob : b.Ok) :
    Calls Tryz.prog 54 #[r.val] w (IdsRet w (b.objs.map (·.1))) := by
  have ho := hb.objs
  obtain ⟨po, no, co, pt, nt, ct, sq, fl, kp⟩ := r
  dsimp only [RB.val] at *
  obtain ⟨rms, hrd, hms⟩ := ho
  have hn := rd_nlen hrd
  have hlm := hms.len
  have hzo := ob.objs
  have hA0 : BoxAt (w.alloc (.cells #[.slice po no co, .slice pt nt ct, .int .i64 sq, .int .i64 fl, .int .i64 kp] 25)) w.heap.size ⟨po, no, co, pt, nt, ct, sq, fl, kp⟩ := heap_alloc_at rfl
  have hB0 : Below w.heap.size w (w.alloc (.cells #[.slice po no co, .slice pt nt ct, .int .i64 sq, .int .i64 fl, .int .i64 kp] 25)) := (Below.refl _ _).alloc (Nat.le_refl _) _
  have HRD := Lib.hid hrd
  have HMS := Lib.hid hms
  have HN : Hid (b.objs.length = no ∧ rms.length = no) := ⟨by omega, by omega⟩
  have hno : no ≤ 1466015503658 := by omega
  clear hb hrd hms hn hlm hzo ob
  go_enter Tryz.func54, Tryz.ntmps54
  go_upto_region 1 with fail
  obtain ⟨W0, hW0⟩ : ∃ W0, (w.alloc (.cells #[.slice po no co, .slice pt nt ct, .int .i64 sq, .int .i64 fl, .int .i64 kp] 25)) = W0 := ⟨_, rfl⟩
  rw [hW0] at hA0 hB0 ⊢
  clear hW0
  have c0 := hA0.cell 0 rfl
  dsimp only at c0
  have HB := Lib.hid hB0
  have hz := hA0.lt
  clear hA0 hB0
  go_wp2_with fail
  go_loopw [3, 9] (fun o i wr => ∃ k : Nat, k ≤ no ∧ i = .int .i64 k ∧ Hid (Own wr w.heap.size 9 encS 1 o ((b.objs.take k).map (·.1))) ∧ Below w.heap.size w wr) (fun _ i _ => no - (intOf i).toNat)
  case atStart => exact ⟨0, Nat.zero_le _, rfl, Own.nil _ _ _, HB.out⟩
  case round =>
    obtain ⟨k, hk, rfl, hown, hbr⟩ := hrel
    by_cases hlt : k < no
    · obtain ⟨x, hx⟩ : ∃ x, rms[k]? = some x := ⟨_, List.getElem?_eq_getElem (by have := HN.out; omega)⟩
      obtain ⟨p, hp⟩ : ∃ x, b.objs[k]? = some x := ⟨_, List.getElem?_eq_getElem (by have := HN.out; omega)⟩
      have hpn := HMS.out.name _ p x hp hx
      obtain ⟨b1, o1, rfl, hb1, hc1⟩ := rd_at' (HRD.out.below hbr (Nat.le_refl _)) hx
      have f0 := hc1 0 _ rfl
      have f1 := hc1 1 _ rfl
      have f2 := hc1 2 _ rfl
      have f3 := hc1 3 _ rfl
      have f4 := hc1 4 _ rfl
      have f5 := hc1 5 _ rfl
      rw [Nat.add_zero] at f0
      have hk0 : (0 : Int) ≤ (k : Int) := Int.natCast_nonneg _
      have hk1 : (k : Int) < (no : Int) := by omega
      have hsn : (b.objs.take (k + 1)).map (·.1) = (b.objs.take k).map (·.1) ++ [x.name] := by rw [List.take_add_one, hp]; simp [hpn]
      have HSN := Lib.hid hsn
      have HBR := Lib.hid hbr
      have HO2 := Lib.hid ((hown.out.alloc (.cells #[.string x.name, .int .i64 x.v.k, .int .i64 x.v.n, .string x.v.s, .slice x.v.pl x.v.nl x.v.cl, .slice x.v.pm x.v.nm x.v.cm] 40)).alloc (.cells #[.string x.name] 9))
      have HB2 := Lib.hid ((hbr.alloc hbr.size (.cells #[.string x.name, .int .i64 x.v.k, .int .i64 x.v.n, .string x.v.s, .slice x.v.pl x.v.nl x.v.cl, .slice x.v.pm x.v.nm x.v.cm] 40)).alloc (by simp; have := hbr.size; omega) (.cells #[.string x.name] 9))
      have HR2 : Hid (Rd ((wr.alloc (.cells #[.string x.name, .int .i64 x.v.k, .int .i64 x.v.n, .string x.v.s, .slice x.v.pl x.v.nl x.v.cl, .slice x.v.pm x.v.nm x.v.cm] 40)).alloc (.cells #[.string x.name] 9)) (wr.heap.size + 1 + 1) encS 1 (.slice (some ⟨wr.heap.size + 1, 0, none⟩) 1 1) [x.name]) := Rd.one codecS (heap_alloc_at (by simp)) rfl (by omega)
      have hl : ((b.objs.take k).map (·.1)).length ≤ 1466015503658 := by simp; omega
      have HL := Lib.hid hl
      clear hx hp hpn hc1 hbr hsn hown hl
      go_wp2_with (at_builtin; refine wpList_append_rd slS codecS _ rfl _ _ rfl rfl rfl HO2.out HR2.out (by have := HL.out; simp only [List.length_singleton]; unfold maxLen; omega) (by have := HL.out; simp only [List.length_singleton]; omega) (by have := HBR.out.size; simp; omega) ?_; intro v1 w1 ho1 hg1 hat1)
      go_roundw
      case rel => exact ⟨k + 1, by omega, by go_num, by unfold Hid; rw [HSN.out]; exact ho1, Below.appended HB2.out hg1 HO2.out HB2.out.size⟩
      case measure => simp [intOf]; omega
    · obtain rfl : k = no := by omega
      go_wp2_with fail
      go_ret
      refine ⟨_, rfl, ?_, hbr⟩
      have h := hown.out
      rw [List.take_of_length_le (by have := HN.out; omega)] at h
      exact h
end Go.Proofs.YtanemojiaahbgaaGreatDoor
end
