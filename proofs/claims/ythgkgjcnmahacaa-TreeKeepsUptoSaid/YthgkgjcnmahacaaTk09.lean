import Derived.Test.YthgkgjcnmahacaaTk00
import Derived.Test.YthgkgjcnmahacaaTk03
import Derived.Test.YthgkgjcnmahacaaTk08
section
/- A slice of the call's own: its tail cleared, its head kept; whole elements stored. Plain laws over any program. -/
set_option linter.unusedSimpArgs false
set_option linter.unusedVariables false
namespace Go.Proofs.Ythgkgjcnmahacaa
open Go Go.RowKit

theorem setCells_tail (g m : Nat) (e : TypeId) : ∀ (vs : List Value) (o : Nat) (w : World) (cur : Array Value), m ≤ o → w.heap[g]? = some (.cells cur e (0, 0)) →
    ∃ cur', (w.setCells g o vs).heap[g]? = some (.cells cur' e (0, 0)) ∧ cur'.size = cur.size ∧ cur'.toList.take m = cur.toList.take m ∧ w.grownBy (w.setCells g o vs) (some g)
  | [], o, w, cur, ho, h => ⟨cur, h, rfl, rfl, World.grownBy.refl w _⟩
  | v :: r, o, w, cur, ho, h => by
    obtain ⟨cur', h1, h2, h3, h4⟩ := setCells_tail g m e r (o + 1) (w.setCell ⟨g, o, none⟩ v) (cur.setIfInBounds o v) (by omega) (heap_setCell_same w g o cur e v h)
    refine ⟨cur', h1, by simpa using h2, ?_, ?_⟩
    · rw [h3, Array.toList_setIfInBounds, List.take_set_of_le ho]
    · have hg1 : w.grownBy (w.setCell ⟨g, o, none⟩ v) (some g) := ⟨rfl, rfl, rfl, by simp, fun k _ hk => heap_setCell_other w ⟨g, o, none⟩ k v (fun e => hk (by simp [e]))⟩
      exact hg1.trans h4
theorem zeroCells_mem (z : Array Value) (n : Nat) (h : ∀ u ∈ z.toList, u.oneCell' = true) : ∀ u ∈ (Builtin.zeroCells z n).toList, u.oneCell' = true := by
  intro u hu
  simp only [Builtin.zeroCells, Array.toList_map, Array.toList_range, List.mem_map, List.mem_range] at hu
  obtain ⟨i, hi, rfl⟩ := hu
  have hz : 0 < z.size := by
    rcases Nat.eq_zero_or_pos z.size with h0 | h0
    · rw [h0, Nat.mul_zero] at hi; omega
    · exact h0
  have hlt : i % z.size < z.size := Nat.mod_lt _ hz
  rw [getElem!_pos z (i % z.size) hlt]
  exact h _ (by simp)

section
variable {P : Program} {α : Type} {enc : α → List Value} {sz bytes : Nat} {t e : TypeId}
theorem Own.take {w : World} {base : Nat} {p : Option Addr} {n cap : Nat} {xs : List α} (C : Codec enc sz) (h : Own w base e enc sz (.slice p n cap) xs) (m : Nat) (hm : m ≤ n) : Own w base e enc sz (.slice p m cap) (xs.take m) := by
  obtain ⟨hl, h⟩ := h
  rcases h with ⟨hv, hn⟩ | ⟨g, cap', cur, hv, hg, hh, hnc, hcm, hcs, ht⟩
  · simp only [Value.slice.injEq] at hv
    obtain ⟨rfl, rfl, rfl⟩ := hv
    obtain rfl : m = 0 := by omega
    rw [List.take_zero]
    exact Own.nil w base e
  · simp only [Value.slice.injEq] at hv
    obtain ⟨rfl, rfl, rfl⟩ := hv
    have hlen : (xs.take m).length = m := by rw [List.length_take]; omega
    refine ⟨cellsOf_len C _, .inr ⟨g, cap, cur, by rw [hlen], hg, hh, by omega, hcm, hcs, ?_⟩⟩
    rw [hlen]
    have h1 : cellsOf enc xs = cellsOf enc (xs.take m) ++ cellsOf enc (xs.drop m) := by rw [← cellsOf_append, List.take_append_drop]
    have h2 : cur.toList.take (m * sz) = (cur.toList.take (xs.length * sz)).take (m * sz) := by
      rw [List.take_take, Nat.min_eq_left (Nat.mul_le_mul_right _ hm)]
    rw [h2, ht, h1]
    have h3 : (cellsOf enc (xs.take m)).length = m * sz := by rw [cellsOf_len C, hlen]
    rw [← h3, List.take_left]

/-- 'clear(s[i:])' leaves the head of a slice of the call's own. -/
theorem run_clear_own (S : SlT P t e sz bytes) (hone : ∀ i z, P.info? e = some i → i.zero = some z → ∀ u ∈ z.cells.toList, u.oneCell' = true) (C : Codec enc sz) (w : World) (ty : TypeId) {base : Nat} {p : Option Addr} {n cap m : Nat} {xs : List α}
    (h : Own w base e enc sz (.slice p n cap) xs) (hm : m ≤ n) {v : Value} (hv : v = sliced p m n cap sz) :
    ∃ w', (Builtin.clear_ #[t] ty #[v]).run P w = .ok (.tuple #[]) w' ∧ Own w' base e enc sz (.slice p m cap) (xs.take m) ∧ w.grownBy w' (Value.slice p n cap).ownBlock := by
  have hT := h.take C m hm
  obtain ⟨ht, i, z, hi, hz, hs1, hs2, hzs⟩ := S
  by_cases hmn : m = n
  · subst hmn
    refine ⟨w, ?_, hT, World.grownBy.refl w _⟩
    rw [hv]
    unfold sliced
    rw [Nat.sub_self]
    cases (if cap = m then p else p.map (·.add (m * sz))) <;> simp [Builtin.clear_, run_underlying ht]
  · obtain ⟨hl, h'⟩ := h
    rcases h' with ⟨hv', hn⟩ | ⟨g, cap', cur, hv', hg, hh, hnc, hcm, hcs, htk⟩
    · simp only [Value.slice.injEq] at hv'
      omega
    · simp only [Value.slice.injEq] at hv'
      obtain ⟨rfl, hnx, rfl⟩ := hv'
      have hsl : v = .slice (some ⟨g, m * sz, none⟩) (n - m) (cap - m) := by
        rw [hv]; unfold sliced
        rw [if_neg (by omega)]
        simp [add_eq]
      have hszn : (Builtin.zeroCells z.cells (n - m)).size = (n - m) * sz := by rw [size_zeroCells, hzs]
      have hcell : ∀ j, j < (n - m) * sz → (w.cell? ⟨g, m * sz + j, none⟩).isSome = true := by
        intro j hj
        rw [cell_of_row w g _ cur e (0, 0) hh]
        have h1 : (n - m) * sz + m * sz ≤ cap * sz := by rw [← Nat.add_mul]; exact Nat.mul_le_mul_right _ (by omega)
        rw [Array.getElem?_eq_getElem (by omega)]
        rfl
      have hst := run_storeCells_cells (P := P) g (m * sz) (Builtin.zeroCells z.cells (n - m)).toList 0 w (by intro j hj; rw [Array.length_toList, hszn] at hj; simpa using hcell j hj) (fun j hj => frozen_of_row w g _ cur e hh) (zeroCells_mem z.cells _ (hone i z hi hz))
      rw [Nat.add_zero] at hst
      obtain ⟨cur', h1, h2, h3, h4⟩ := setCells_tail g (m * sz) e (Builtin.zeroCells z.cells (n - m)).toList (m * sz) w cur (Nat.le_refl _) hh
      refine ⟨_, ?_, ?_, h4⟩
      · rw [hsl]
        obtain ⟨k, hk⟩ : ∃ k, n - m = k + 1 := ⟨n - m - 1, by omega⟩
        rw [hk] at hst ⊢
        simp [Builtin.clear_, run_underlying ht, zeroValue, typeInfo, hi, hz, hst]
      · have hlen : (xs.take m).length = m := by rw [List.length_take]; omega
        obtain ⟨hl2, h2'⟩ := hT
        rcases h2' with ⟨hv2, _⟩ | ⟨g2, cap2, cur2, hv2, _, hh2, _, _, _, ht2⟩
        · simp at hv2
        · simp only [Value.slice.injEq, Option.some.injEq, Addr.mk.injEq, and_true, true_and] at hv2
          obtain ⟨rfl, _, rfl⟩ := hv2
          rw [hh] at hh2
          cases hh2
          refine ⟨hl2, .inr ⟨g, cap, cur', by rw [hlen], hg, h1, by omega, hcm, by omega, ?_⟩⟩
          rw [hlen] at ht2 ⊢
          rw [h3]
          exact ht2
theorem wpList_clear_own {ops : Array Oper} {rest : List Oper} {o : Oper} {a : Act} {Q : Exit → Act → World → Prop} (S : SlT P t e sz bytes) (hone : ∀ i z, P.info? e = some i → i.zero = some z → ∀ u ∈ z.cells.toList, u.oneCell' = true) (C : Codec enc sz) (w : World) (hgd : o.guard = none) (s : Operand)
    (ho : o.op = .call { callee := .builtin .clear, args := #[s], argTypes := #[t] }) {base : Nat} {p : Option Addr} {n cap m : Nat} {xs : List α} {v : Value} (hs : a.eval s = v) (hv : v = sliced p m n cap sz) (hown : Own w base e enc sz (.slice p n cap) xs) (hm : m ≤ n)
    (h : ∀ w', Own w' base e enc sz (.slice p m cap) (xs.take m) → w.grownBy w' (Value.slice p n cap).ownBlock → wpList P ops Q rest (a.put o.dst (.tuple #[])) w') : wpList P ops Q (o :: rest) a w :=
  wpList_plain hgd fun K hK => by
    obtain ⟨w', hrun, h2, h3⟩ := run_clear_own S hone C w o.type hown hm hv
    unfold Oper.wp execOp
    simp only [ho, resolve, invoke, builtin, Sem.run_bind, Sem.run_pure, Result.andThen_ok, List.map_toArray, List.map_cons, List.map_nil, hs, hrun]
    exact hK _ _ (h w' h2 h3)
theorem run_slice_low (S : SlT P t e sz bytes) (p : Option Addr) (n cap m : Nat) (hm : m ≤ n) (W : World) : (Instr.sliceAt t (.slice p n cap) (some (.int .i64 m)) none none).run P W = .ok (sliced p m n cap sz) W := by
  obtain ⟨ht, i, z, hi, hz, hs1, hs2, hzs⟩ := S
  have he : P.elem t = e := by simp [Program.elem, ht]
  have ht' : P.underlying t = some (.slice (P.elem t)) := by rw [he]; exact ht
  rw [run_sliceAt_slice _ _ _ _ _ _ ht', run_slice_l W t p n cap ht' .i64 m (by omega) (by omega), he]
  simp [sizeOf, typeInfo, hi, hs1, Result.andThen]
theorem run_slice_high (S : SlT P t e sz bytes) (p : Option Addr) (n cap m : Nat) (hm : m ≤ cap) (W : World) : (Instr.sliceAt t (.slice p n cap) none (some (.int .i64 m)) none).run P W = .ok (.slice p m cap) W := by
  obtain ⟨ht, i, z, hi, hz, hs1, hs2, hzs⟩ := S
  have he : P.elem t = e := by simp [Program.elem, ht]
  have ht' : P.underlying t = some (.slice (P.elem t)) := by rw [he]; exact ht
  rw [run_sliceAt_slice _ _ _ _ _ _ ht', run_slice_h W t p n cap ht' .i64 m (by omega) (by omega), he]
  have hp : p.map (fun a => a.add 0) = p := by cases p <;> simp [Addr.add]
  have hsl : sliced p 0 m cap sz = .slice p m cap := by unfold sliced; simp [hp]
  simp [sizeOf, typeInfo, hi, hs1, Result.andThen, hsl]
end
end Go.Proofs.Ythgkgjcnmahacaa
end

section
/- tree.Without, walked: the library's DeleteFunc at members. -/
set_option linter.unusedSimpArgs false
set_option linter.unusedVariables false
namespace Go.Proofs.Ythgkgjcnmahacaa
open Go.RowKit Go.OpenShut

set_option maxRecDepth 100000 in
theorem isName_any (x : RM) (g : Nat) (name : ByteArray) (w : World) (hg : w.cell? ⟨g, 0, none⟩ = some (.string name)) :
    Calls Try.prog 80 #[x.val, .pointer (some ⟨g, 0, none⟩)] w fun e w' => e = .returned (.bool (decide (x.name = name))) ∧ Below w.heap.size w w' := by
  obtain ⟨nm, k, n, s, pl, nl, cl, pm, nm', cm⟩ := x
  dsimp only [RM.val]
  have hlt := (cell_some hg).2
  have hne := World.new_ne w ⟨g, 0, none⟩ hg
  have hB : Below w.heap.size w (w.alloc (.cells #[.string nm, .int .i64 k, .int .i64 n, .string s, .slice pl nl cl, .slice pm nm' cm] 90)) := (Below.refl _ _).alloc (Nat.le_refl _) _
  have hc := bcs hB hlt hg
  have hq := str_beq nm name
  have HQ := Lib.hid hq
  clear hq
  go_enter Try.func80, Try.ntmps80
  go_wp2_with fail
  go_ret
  exact ⟨by rw [← HQ.out]; rfl, hB⟩

/-- The function value that asks for a name. -/
abbrev isNameV (g : Nat) : Value := .func (.func 80) #[] #[.pointer (some ⟨g, 0, none⟩)]
def nameB (name : ByteArray) (x : RM) : Bool := decide (x.name = name)

set_option maxRecDepth 100000 in
set_option maxHeartbeats 1000000 in
theorem indexFunc_any (w : World) (p : Option Addr) (n c : Nat) (rms : List RM) (hv : Rd w w.heap.size encM 6 (.slice p n c) rms) (g : Nat) (name : ByteArray) (hg : w.cell? ⟨g, 0, none⟩ = some (.string name)) (hlen : rms.length ≤ 1466015503658) :
    Calls Try.prog 106 #[.slice p n c, isNameV g] w fun e w' => e = .returned (.int .i64 (placeI (rms.findIdx? (nameB name)))) ∧ Below w.heap.size w w' := by
  have hn := rd_nlen hv
  subst hn
  have HV := Lib.hid hv
  have hgl := (cell_some hg).2
  clear hv
  go_enter Try.func106, Try.ntmps106
  go_wp2_with fail
  go_loopw [8] (fun i wr => ∃ k : Nat, k ≤ rms.length ∧ i = .int .i64 k ∧ Hid (∀ (j : Nat) y, j < k → rms[j]? = some y → nameB name y = false) ∧ Below w.heap.size w wr) (fun i _ => rms.length - (intOf i).toNat)
  case atStart => exact ⟨0, Nat.zero_le _, rfl, fun j y h => by omega, Below.refl _ _⟩
  case round =>
    obtain ⟨k, hk, rfl, hno, hbr⟩ := hrel
    by_cases hlt : k < rms.length
    · obtain ⟨x, hx⟩ : ∃ x, rms[k]? = some x := ⟨_, List.getElem?_eq_getElem hlt⟩
      obtain ⟨b1, o1, rfl, hb1, hc1⟩ := rd_at' (HV.out.below hbr (Nat.le_refl _)) hx
      have f0 := hc1 0 _ rfl
      have f1 := hc1 1 _ rfl
      have f2 := hc1 2 _ rfl
      have f3 := hc1 3 _ rfl
      have f4 := hc1 4 _ rfl
      have f5 := hc1 5 _ rfl
      rw [Nat.add_zero] at f0
      have HX := Lib.hid hx
      have hz := hbr.size
      have HBR := Lib.hid hbr
      have hgr := Lib.hid (bcs hbr hgl hg)
      cases hnb : nameB name x with
      | true =>
        have HF := Lib.hid (find_at HX.out hnb hno.out)
        have HNB : Hid (decide (x.name = name) = true) := hnb
        clear hx hc1 hbr hnb hno hg
        go_wp2_with (go_at_call 80; refine (isName_any x g name _ hgr.out).mono ?_; rintro e w1 ⟨rfl, hb1'⟩; rw [HNB.out])
        go_ret
        exact ⟨ret_int (by rw [HF.out]; rfl), HBR.out.trans (hb1'.mono HBR.out.size)⟩
      | false =>
        have HNB : Hid (decide (x.name = name) = false) := hnb
        have HNX : Hid (∀ (j : Nat) y, j < k + 1 → rms[j]? = some y → nameB name y = false) := by
          intro j y hj hy
          by_cases e : j = k
          · subst e
            rw [hx] at hy
            cases hy
            exact hnb
          · exact hno.out j y (by omega) hy
        clear hx hc1 hbr hnb hno hg
        go_wp2_with (go_at_call 80; refine (isName_any x g name _ hgr.out).mono ?_; rintro e w1 ⟨rfl, hb1'⟩; rw [HNB.out])
        go_roundw
        case rel => exact ⟨k + 1, by omega, by go_num, HNX, HBR.out.trans (hb1'.mono HBR.out.size)⟩
        case measure => simp [intOf]; omega
    · obtain rfl : k = rms.length := by omega
      have HF := Lib.hid (find_not (p := nameB name) (l := rms) (fun j y hy => hno.out j y (List.getElem?_eq_some_iff.1 hy).1 hy))
      go_wp2_with fail
      go_ret
      exact ⟨ret_int (by rw [HF.out]; rfl), hbr⟩

theorem Own.storedM {w : World} {base : Nat} {g n cap : Nat} {xs : List RM} (h : Own w base 90 encM 6 (.slice (some ⟨g, 0, none⟩) n cap) xs) {k : Nat} {x : RM} (hx : xs[k]? = some x) (nm : ByteArray) (q : RV) :
    Own ((((((w.setCell ⟨g, k * 6, none⟩ (.string nm)).setCell ⟨g, k * 6 + 1, none⟩ (.int .i64 q.k)).setCell ⟨g, k * 6 + 2, none⟩ (.int .i64 q.n)).setCell ⟨g, k * 6 + 3, none⟩ (.string q.s)).setCell ⟨g, k * 6 + 4, none⟩ (.slice q.pl q.nl q.cl)).setCell ⟨g, k * 6 + 5, none⟩ (.slice q.pm q.nm q.cm)) base 90 encM 6 (.slice (some ⟨g, 0, none⟩) n cap) (xs.set k ⟨nm, q⟩) ∧
    w.grownBy ((((((w.setCell ⟨g, k * 6, none⟩ (.string nm)).setCell ⟨g, k * 6 + 1, none⟩ (.int .i64 q.k)).setCell ⟨g, k * 6 + 2, none⟩ (.int .i64 q.n)).setCell ⟨g, k * 6 + 3, none⟩ (.string q.s)).setCell ⟨g, k * 6 + 4, none⟩ (.slice q.pl q.nl q.cl)).setCell ⟨g, k * 6 + 5, none⟩ (.slice q.pm q.nm q.cm)) (some g) := by
  have hk := (List.getElem?_eq_some_iff.1 hx).1
  have s1 := Own.storedAt codecM h (j := 0) (y := ⟨nm, x.v⟩) (u := .string nm) hx (by decide) rfl
  have s2 := Own.storedV s1.1 (k := k) (x := ⟨nm, x.v⟩) (by simp [List.getElem?_set, hk]) q
  simp only [List.set_set] at s2
  exact ⟨s2.1, s1.2.trans s2.2⟩
def MAt (W : World) (g : Nat) (x : RM) : Prop := W.heap[g]? = some (.cells #[.string x.name, .int .i64 x.v.k, .int .i64 x.v.n, .string x.v.s, .slice x.v.pl x.v.nl x.v.cl, .slice x.v.pm x.v.nm x.v.cm] 90 (0, 0))
theorem MAt.cell {W : World} {g : Nat} {r : RM} (h : MAt W g r) (j : Nat) {u : Value} (hu : (encM r)[j]? = some u) : W.cell? ⟨g, j, none⟩ = some u := by
  unfold MAt at h
  rw [cell_of_row W g j _ _ _ h, ← Array.getElem?_toList]
  exact hu
theorem MAt.under {W W' : World} {g B : Nat} {r : RM} (h : MAt W g r) (hb : Below B W W') (hg : g < B) : MAt W' g r := (hb.block g hg).trans h
theorem oneM : ∀ i z, Try.prog.info? 90 = some i → i.zero = some z → ∀ u ∈ z.cells.toList, u.oneCell' = true := by
  intro i z hi hz
  have h : (Try.prog.info? 90).map (fun i => (i.zero, i.size, i.bytes)) = some (some (.agg #[.string ByteArray.empty, .int .i64 0, .int .i64 0, .string ByteArray.empty, .slice none 0 0, .slice none 0 0]), 6, 96) := by kernel_rfl
  rw [hi] at h
  simp only [Option.map_some, Option.some.injEq, Prod.mk.injEq] at h
  rw [hz] at h
  simp only [Option.some.injEq] at h
  rw [h.1]
  intro u hu
  simp [Value.cells] at hu
  rcases hu with rfl | rfl | rfl | rfl | rfl | rfl <;> rfl

structure DelRel (rms : List RM) (name : ByteArray) (a b : Nat) (cur : List RM) : Prop where
  lt : a < b
  len : cur.length = rms.length
  head : cur.take a = (rms.take b).filter (fun x => !nameB name x)
  tail : cur.drop b = rms.drop b
theorem DelRel.start {rms : List RM} {name : ByteArray} {i : Nat} (h : rms.findIdx? (nameB name) = some i) : DelRel rms name i (i + 1) rms := by
  rw [List.findIdx?_eq_some_iff_getElem] at h
  obtain ⟨h1, h2, h3⟩ := h
  refine ⟨by omega, rfl, ?_, rfl⟩
  rw [List.take_add_one, List.getElem?_eq_getElem h1, List.filter_append]
  have e1 : (rms.take i).filter (fun x => !nameB name x) = rms.take i := by
    rw [List.filter_eq_self]
    intro x hx
    obtain ⟨j, hj⟩ := List.getElem?_of_mem hx
    rw [List.getElem?_take] at hj
    split at hj
    · have := h3 j (by assumption)
      rw [List.getElem?_eq_getElem (by omega)] at hj
      cases hj
      simpa using this
    · cases hj
  rw [e1]
  simp [h2]
theorem DelRel.at {rms cur : List RM} {name : ByteArray} {a b : Nat} (h : DelRel rms name a b cur) {x : RM} (hx : rms[b]? = some x) : cur[b]? = some x := by
  have h1 : (cur.drop b)[0]? = (rms.drop b)[0]? := by rw [h.tail]
  simpa [List.getElem?_drop, hx] using h1
theorem DelRel.skip {rms cur : List RM} {name : ByteArray} {a b : Nat} (h : DelRel rms name a b cur) {x : RM} (hx : rms[b]? = some x) (hn : nameB name x = true) : DelRel rms name a (b + 1) cur := by
  refine ⟨by have := h.lt; omega, h.len, ?_, ?_⟩
  · rw [List.take_add_one, hx, List.filter_append, ← h.head]
    simp [hn]
  · rw [← List.drop_drop (i := 1) (j := b), ← List.drop_drop (i := 1) (j := b), h.tail]
theorem DelRel.keep {rms cur : List RM} {name : ByteArray} {a b : Nat} (h : DelRel rms name a b cur) {x : RM} (hx : rms[b]? = some x) (hn : nameB name x = false) : DelRel rms name (a + 1) (b + 1) (cur.set a x) := by
  have hl := h.lt
  have hbl := (List.getElem?_eq_some_iff.1 hx).1
  refine ⟨by omega, by rw [List.length_set, h.len], ?_, ?_⟩
  · rw [List.take_add_one, List.take_set_of_le (Nat.le_refl _), List.getElem?_set_self (by have := h.len; omega), List.take_add_one, hx, List.filter_append, ← h.head]
    simp [hn]
  · rw [List.drop_set_of_lt (by omega), ← List.drop_drop (i := 1) (j := b), ← List.drop_drop (i := 1) (j := b), h.tail]
theorem DelRel.done {rms cur : List RM} {name : ByteArray} {a : Nat} (h : DelRel rms name a rms.length cur) : cur.take a = rms.filter (fun x => !nameB name x) := by
  have := h.head
  rwa [List.take_length] at this

set_option maxRecDepth 100000 in
set_option maxHeartbeats 2000000 in
theorem deleteFunc_any (w : World) (base : Nat) (p : Option Addr) (n c : Nat) (rms : List RM) (hv : Own w base 90 encM 6 (.slice p n c) rms) (hb : base ≤ w.heap.size) (g : Nat) (name : ByteArray) (hg : w.cell? ⟨g, 0, none⟩ = some (.string name)) (hgb : g < base) (hlen : rms.length ≤ 1466015503658) :
    Calls Try.prog 79 #[.slice p n c, isNameV g] w fun e w' => ∃ m, e = .returned (.slice p m c) ∧ Own w' base 90 encM 6 (.slice p m c) (rms.filter (fun x => !nameB name x)) ∧ Below base w w' := by
  have hn := rd_nlen (hv.rd codecM)
  subst hn
  have HI := Lib.hid (indexFunc_any w p rms.length c rms (hv.rd codecM) g name hg hlen)
  have HV := Lib.hid hv
  have HG := Lib.hid hg
  clear hv hg
  cases hf : rms.findIdx? (nameB name) with
  | none =>
    have HF := Lib.hid hf
    clear hf
    go_enter Try.func79, Try.ntmps79
    go_wp2_with (go_at_call 106; refine HI.out.mono ?_; rintro e w1 ⟨rfl, hb1⟩; rw [HF.out]; (have hn1 : placeI (none : Option Nat) = -1 := rfl); rw [hn1]; go_frame)
    go_ret
    refine ⟨rms.length, rfl, ?_, hb1.mono hb⟩
    have e1 : rms.filter (fun x => !nameB name x) = rms := by
      rw [List.filter_eq_self]
      intro x hx
      have := List.findIdx?_eq_none_iff.1 HF.out x hx
      simpa using this
    rw [e1]
    exact HV.out.below hb1 (Nat.le_refl _)
  | some i =>
    have HF := Lib.hid hf
    have hst := DelRel.start hf
    have hi := hst.lt
    have hil : i < rms.length := by rw [List.findIdx?_eq_some_iff_getElem] at hf; exact hf.1
    have HST := Lib.hid hst
    have hne : ((i : Int) == -1) = false := by rw [beq_eq_false_iff_ne]; omega
    clear hf hst
    go_enter Try.func79, Try.ntmps79
    go_wp2_with (go_at_call 106; refine HI.out.mono ?_; rintro e w1 ⟨rfl, hb1⟩; rw [HF.out]; (have hn1 : placeI (some i) = (i : Int) := rfl); rw [hn1]; clear hn1; go_frame)
    have hz1 : w.heap.size ≤ w1.heap.size := hb1.size
    have HB1 : Hid (Below base w w1) := hb1.mono hb
    have hO1 : Hid (Own w1 base 90 encM 6 (.slice p rms.length c) rms) := HV.out.below hb1 (Nat.le_refl _)
    clear hb1
    go_loopw [5, 6] (fun x y wr => ∃ (a b : Nat) (cur : List RM), x = .int .i64 a ∧ y = .int .i64 b ∧ b ≤ rms.length ∧ Hid (DelRel rms name a b cur) ∧ Hid (Own wr base 90 encM 6 (.slice p rms.length c) cur) ∧ Below base w wr) (fun _ y _ => rms.length - (intOf y).toNat)
    case atStart => exact ⟨i, i + 1, rms, rfl, by go_num, by omega, HST, hO1, HB1.out⟩
    case round =>
      obtain ⟨a, b, cur, rfl, rfl, hbn, HD, HO, hbr⟩ := hrel
      have hab : a < b := HD.out.lt
      have hzr := hbr.size
      by_cases hlt : b < rms.length
      · obtain ⟨x, hx⟩ : ∃ x, rms[b]? = some x := ⟨_, List.getElem?_eq_getElem hlt⟩
        have hcx := HD.out.at hx
        obtain ⟨xa, hxa⟩ : ∃ xa, cur[a]? = some xa := ⟨_, List.getElem?_eq_getElem (by rw [HD.out.len]; omega)⟩
        obtain ⟨gg, hpg, hnn, hga, hgb', hcell, hfr⟩ := Own.at codecM HO.out hcx
        subst hpg
        have f0 := hcell 0 _ rfl
        have f1 := hcell 1 _ rfl
        have f2 := hcell 2 _ rfl
        have f3 := hcell 3 _ rfl
        have f4 := hcell 4 _ rfl
        have f5 := hcell 5 _ rfl
        rw [Nat.add_zero] at f0
        have hgr := bcs hbr hgb HG.out
        have HX := Lib.hid hx
        have HXA := Lib.hid hxa
        have HBR := Lib.hid hbr
        have hb0 : (0 : Int) ≤ (b : Int) := Int.natCast_nonneg _
        have hb1 : (b : Int) < (rms.length : Int) := by omega
        have ha0 : (0 : Int) ≤ (a : Int) := Int.natCast_nonneg _
        have ha1 : (a : Int) < (rms.length : Int) := by omega
        have hM0 : MAt (wr.alloc (.cells #[.string x.name, .int .i64 x.v.k, .int .i64 x.v.n, .string x.v.s, .slice x.v.pl x.v.nl x.v.cl, .slice x.v.pm x.v.nm x.v.cm] 90)) wr.heap.size x := heap_alloc_at rfl
        have HM0 := Lib.hid hM0
        have hA := HBR.out.alloc (Nat.le_trans hb hzr) (.cells #[.string x.name, .int .i64 x.v.k, .int .i64 x.v.n, .string x.v.s, .slice x.v.pl x.v.nl x.v.cl, .slice x.v.pm x.v.nm x.v.cm] 90)
        have HA := Lib.hid hA
        have hgr2 := bcs hA hgb HG.out
        have HGR := Lib.hid hgr2
        clear hx hxa hcx hcell hfr hnn hbr hgr hgr2 hA hM0
        cases hnb : nameB name x with
        | true =>
          have HNB : Hid (decide (x.name = name) = true) := hnb
          have HN := Lib.hid (HD.out.skip HX.out hnb)
          clear hnb
          go_wp2_with (go_at_call 80; refine (isName_any x g name _ HGR.out).mono ?_; rintro e w2 ⟨rfl, hb2⟩; rw [HNB.out])
          go_roundw
          case rel => exact ⟨a, b + 1, cur, rfl, by go_num, by omega, HN, (HO.out.alloc _).below hb2 (Nat.le_refl _), HA.out.trans (hb2.mono (Nat.le_trans hb HA.out.size))⟩
          case measure => simp [intOf]; omega
        | false =>
          have HNB : Hid (decide (x.name = name) = false) := hnb
          have HN := Lib.hid (HD.out.keep HX.out hnb)
          clear hnb
          go_upto_region 9 with (go_at_call 80; refine (isName_any x g name _ HGR.out).mono ?_; rintro e w2 ⟨rfl, hb2⟩; rw [HNB.out])
          have hM2 := HM0.out.under hb2 (by simp)
          have v0 := hM2.cell 0 rfl
          have v1 := hM2.cell 1 rfl
          have v2 := hM2.cell 2 rfl
          have v3 := hM2.cell 3 rfl
          have v4 := hM2.cell 4 rfl
          have v5 := hM2.cell 5 rfl
          have hO2 := (HO.out.alloc (.cells #[.string x.name, .int .i64 x.v.k, .int .i64 x.v.n, .string x.v.s, .slice x.v.pl x.v.nl x.v.cl, .slice x.v.pm x.v.nm x.v.cm] 90)).below hb2 (Nat.le_refl _)
          obtain ⟨g2, hpg2, hnn2, hga2, hgb2, hcell2, hfr2⟩ := Own.at codecM hO2 HXA.out
          simp only [Option.some.injEq, Addr.mk.injEq, and_true] at hpg2
          subst hpg2
          have t0 := hcell2 0 _ rfl
          have t1 := hcell2 1 _ rfl
          have t2 := hcell2 2 _ rfl
          have t3 := hcell2 3 _ rfl
          have t4 := hcell2 4 _ rfl
          have t5 := hcell2 5 _ rfl
          rw [Nat.add_zero] at t0
          have s0 := hfr2 (a * 6)
          have s1 := hfr2 (a * 6 + 1)
          have s2 := hfr2 (a * 6 + 2)
          have s3 := hfr2 (a * 6 + 3)
          have s4 := hfr2 (a * 6 + 4)
          have s5 := hfr2 (a * 6 + 5)
          have HST2 := Lib.hid (Own.storedM hO2 HXA.out x.name x.v)
          have HB2 : Hid (Below base w w2) := HA.out.trans (hb2.mono (Nat.le_trans hb HA.out.size))
          have hz2 : w.heap.size ≤ w2.heap.size := HB2.out.size
          clear hcell2 hfr2 hnn2 hb2 hM2 hO2 f0 f1 f2 f3 f4 f5
          go_wp2_with fail
          go_roundw
          case rel => exact ⟨a + 1, b + 1, _, by go_num, by go_num, by omega, HN, HST2.out.1, HB2.out.grown HST2.out.2 (by omega) (fun j e => by cases e; exact hga)⟩
          case measure => simp [intOf]; omega
      · obtain rfl : b = rms.length := by omega
        have hal : a ≤ rms.length := by omega
        have hsl := fun W => run_slice_low (P := Try.prog) slM p rms.length c a hal W
        have hcap : rms.length ≤ c := by
          obtain ⟨_, _, e, h1, _⟩ := HO.out.rd codecM
          simp only [Value.slice.injEq] at e
          have := HD.out.len
          omega
        have hsh := fun W => run_slice_high (P := Try.prog) slM p rms.length c a (by omega) W
        have HBR := Lib.hid hbr
        have HDD := Lib.hid HD.out.done
        clear hbr HD
        obtain ⟨w2, hrun, ho2, hg2⟩ := run_clear_own (P := Try.prog) slM oneM codecM wr 0 HO.out hal (v := .slice (p.map (fun x => x.add (a * 6))) (rms.length - a) (c - a)) (by unfold sliced; rw [if_neg (by omega)])
        have HO2 := Lib.hid ho2
        have HG2 := Lib.hid hg2
        clear ho2 hg2
        go_wp2_with fail
        go_ret
        exact ⟨a, rfl, by rw [← HDD.out]; exact HO2.out, HBR.out.grown HG2.out (by omega) (fun j e => (HO.out.lt j e).1)⟩
end Go.Proofs.Ythgkgjcnmahacaa
end

section
/- tree.Without, walked. -/
set_option linter.unusedSimpArgs false
set_option linter.unusedVariables false
namespace Go.Proofs.Ythgkgjcnmahacaa
open Go.RowKit Go.OpenShut

theorem MemsOf.uncons {w : World} {B : Nat} {p : ByteArray × JV} {q : RM} {ms : List (ByteArray × JV)} {rms : List RM} (h : MemsOf w B (p :: ms) (q :: rms)) : p.1 = q.name ∧ TreeOf w B p.2 q.v ∧ MemsOf w B ms rms :=
  ⟨h.name 0 p q rfl rfl, h.val 0 p q rfl rfl, ⟨by have := h.len; simpa using this, fun i a b h1 h2 => h.name (i + 1) a b (by simpa using h1) (by simpa using h2), fun i a b h1 h2 => h.val (i + 1) a b (by simpa using h1) (by simpa using h2)⟩⟩
theorem MemsOf.cons {w : World} {B : Nat} {p : ByteArray × JV} {q : RM} {ms : List (ByteArray × JV)} {rms : List RM} (hn : p.1 = q.name) (ht : TreeOf w B p.2 q.v) (h : MemsOf w B ms rms) : MemsOf w B (p :: ms) (q :: rms) := by
  refine ⟨by simp [h.len], fun i a b h1 h2 => ?_, fun i a b h1 h2 => ?_⟩
  · cases i with
    | zero => simp at h1 h2; subst h1 h2; exact hn
    | succ i => exact h.name i a b (by simpa using h1) (by simpa using h2)
  · cases i with
    | zero => simp at h1 h2; subst h1 h2; exact ht
    | succ i => exact h.val i a b (by simpa using h1) (by simpa using h2)
theorem MemsOf.filter {w : World} {B : Nat} {f : ByteArray × JV → Bool} {g : RM → Bool} (hfg : ∀ p q, p.1 = q.name → f p = g q) : ∀ {ms : List (ByteArray × JV)} {rms : List RM}, MemsOf w B ms rms → MemsOf w B (ms.filter f) (rms.filter g)
  | [], [], h => MemsOf.nil _ _
  | [], q :: rms, h => by have := h.len; simp at this
  | p :: ms, [], h => by have := h.len; simp at this
  | p :: ms, q :: rms, h => by
    obtain ⟨h1, h2, h3⟩ := h.uncons
    have ih := MemsOf.filter hfg h3
    rw [List.filter_cons, List.filter_cons, hfg p q h1]
    split
    · exact ih.cons h1 h2
    · exact ih
/-- What a map without a name has. -/
def cutM (ms : List (ByteArray × JV)) (name : ByteArray) : List (ByteArray × JV) := ms.filter (fun p => !decide (p.1 = name))

/-- The last step: the map is laid into its result. -/
theorem MapRet.fin {w W0 W : World} {B g : Nat} {pm : Option Addr} {nm cm : Nat} {rms : List RM} {ms : List (ByteArray × JV)} (hBw : B ≤ w.heap.size) (hg : w.heap.size ≤ g) (hg0 : g < W0.heap.size) (hb0 : w.heap.size ≤ W0.heap.size) (hb : Below w.heap.size w W) (ho : Own W W0.heap.size 90 encM 6 (.slice pm nm cm) rms) (hm : MemsOf W B ms rms) :
    MapRet w B ms (.returned (RV.val ⟨6, 0, ⟨#[]⟩, none, 0, 0, pm, nm, cm⟩)) (((((W.setCell ⟨g, 0, none⟩ (.int .i64 6)).setCell ⟨g, 1, none⟩ (.int .i64 0)).setCell ⟨g, 2, none⟩ (.string ⟨#[]⟩)).setCell ⟨g, 3, none⟩ (.slice none 0 0)).setCell ⟨g, 4, none⟩ (.slice pm nm cm)) := by
  have hlt := ho.lt
  refine ⟨pm, nm, cm, rms, rfl, ?_, hm.under (Below.stored (Below.refl _ _) (by omega) ⟨6, 0, ⟨#[]⟩, none, 0, 0, pm, nm, cm⟩) (Nat.le_refl _), Below.stored hb hg ⟨6, 0, ⟨#[]⟩, none, 0, 0, pm, nm, cm⟩⟩
  refine (ho.mono hb0).kept (grownBy_set5 W g ⟨6, 0, ⟨#[]⟩, none, 0, 0, pm, nm, cm⟩) ?_
  cases hob : (Value.slice pm nm cm).ownBlock with
  | none => exact .inl rfl
  | some j =>
    refine .inr (fun h => ?_)
    have := (hlt j hob).1
    injection h with h
    omega

set_option maxRecDepth 100000 in
set_option maxHeartbeats 2000000 in
theorem without_any (t : JV) (r : RV) (name : ByteArray) (w : World) (B : Nat) (hBw : B ≤ w.heap.size) (ht : TreeOf w B t r) (ot : t.Ok) (hlen : t.mem.length ≤ 1466015503658) :
    Calls Try.prog 38 #[r.val, .string name] w (MapRet w B (cutM t.mem name)) := by
  obtain ⟨k, n, s, pl, nl, cl, pm, nm, cm⟩ := r
  dsimp only [RV.val] at *
  have HT := Lib.hid ht
  have HO := Lib.hid ot
  have HL := Lib.hid hlen
  have hA0 : VAt (((w.alloc (.cells #[.int .i64 k, .int .i64 n, .string s, .slice pl nl cl, .slice pm nm cm] 25)).alloc (.cells #[.string name] 9)).alloc (.cells #[.int .i64 0, .int .i64 0, .string ⟨#[]⟩, .slice none 0 0, .slice none 0 0] 25)) w.heap.size ⟨k, n, s, pl, nl, cl, pm, nm, cm⟩ := heap_alloc_lt (by simp; omega) (heap_alloc_lt (by simp) (heap_alloc_at rfl))
  have hA1 : (((w.alloc (.cells #[.int .i64 k, .int .i64 n, .string s, .slice pl nl cl, .slice pm nm cm] 25)).alloc (.cells #[.string name] 9)).alloc (.cells #[.int .i64 0, .int .i64 0, .string ⟨#[]⟩, .slice none 0 0, .slice none 0 0] 25)).heap[w.heap.size + 1]? = some (.cells #[.string name] 9 (0, 0)) := heap_alloc_lt (by simp) (heap_alloc_at (by simp))
  have hA2 : VAt (((w.alloc (.cells #[.int .i64 k, .int .i64 n, .string s, .slice pl nl cl, .slice pm nm cm] 25)).alloc (.cells #[.string name] 9)).alloc (.cells #[.int .i64 0, .int .i64 0, .string ⟨#[]⟩, .slice none 0 0, .slice none 0 0] 25)) (w.heap.size + 1 + 1) RV.zero := heap_alloc_at (by simp)
  have hB0 := (below2 w (.cells #[.int .i64 k, .int .i64 n, .string s, .slice pl nl cl, .slice pm nm cm] 25) (.cells #[.string name] 9)).alloc (by simp; omega) (.cells #[.int .i64 0, .int .i64 0, .string ⟨#[]⟩, .slice none 0 0, .slice none 0 0] 25)
  clear ht ot hlen
  go_enter Try.func38, Try.ntmps38
  go_upto_region 1 with fail
  obtain ⟨W0, hW0⟩ : ∃ W0, (((w.alloc (.cells #[.int .i64 k, .int .i64 n, .string s, .slice pl nl cl, .slice pm nm cm] 25)).alloc (.cells #[.string name] 9)).alloc (.cells #[.int .i64 0, .int .i64 0, .string ⟨#[]⟩, .slice none 0 0, .slice none 0 0] 25)) = W0 := ⟨_, rfl⟩
  rw [hW0] at hA0 hA1 hA2 hB0 ⊢
  clear hW0
  have p0 := hA0.cell 0 rfl
  have p1 := hA0.cell 1 rfl
  have p2 := hA0.cell 2 rfl
  have p3 := hA0.cell 3 rfl
  have p4 := hA0.cell 4 rfl
  have hzz : w.heap.size + 1 + 1 < W0.heap.size := hA2.lt
  have hnm0 : W0.cell? ⟨w.heap.size + 1, 0, none⟩ = some (.string name) := by rw [cell_of_row W0 _ 0 _ _ _ hA1]; rfl
  have HNM := Lib.hid hnm0
  clear hnm0 hA1
  go_upto_region 2 with (first
    | (go_at_call 77; refine (members_any t ⟨k, n, s, pl, nl, cl, pm, nm, cm⟩ _ B (Nat.le_trans hBw hB0.size) (HT.out.under (hB0.mono hBw) (Nat.le_refl _)) HO.out).mono ?_; rintro e w1 ⟨pp, pn, pc, rms, rfl, ho1, hms1, hb1⟩)
    | (go_at_call 79; refine (deleteFunc_any _ W0.heap.size pp pn pc rms ho1 hb1.size (w.heap.size + 1) name (bcs hb1 (by omega) HNM.out) (by omega) (by have := hms1.len; have := HL.out; omega)).mono ?_; rintro e w2 ⟨m, rfl, ho2, hb2⟩))
  have HB1 : Below w.heap.size w w2 := hB0.trans ((hb1.mono hB0.size).trans (hb2.mono hB0.size))
  have HZ : VAt w2 (w.heap.size + 1 + 1) RV.zero := hA2.under (hb1.trans hb2) (by omega)
  have z0 := HZ.cell 0 rfl
  have z1 := HZ.cell 1 rfl
  have z2 := HZ.cell 2 rfl
  have z3 := HZ.cell 3 rfl
  have z4 := HZ.cell 4 rfl
  dsimp only [RV.zero] at z0 z1 z2 z3 z4
  have y0 := HZ.frozen 0
  have y1 := HZ.frozen 1
  have y2 := HZ.frozen 2
  have y3 := HZ.frozen 3
  have y4 := HZ.frozen 4
  have HM2 := Lib.hid ((hms1.filter (f := fun p => !decide (p.1 = name)) (g := fun x => !nameB name x) (fun p q h => by unfold nameB; rw [h])).under (hb2.mono (Nat.le_trans hBw hB0.size)) (Nat.le_refl _))
  have HO2 := Lib.hid ho2
  clear p0 p1 p2 p3 p4 hA0 hA2 ho1 hms1 hb1 hb2 ho2
  go_wp2_with fail
  exact bodyPost_ret (v := RV.val ⟨6, 0, ⟨#[]⟩, none, 0, 0, pp, m, pc⟩) (by simp [results, Try.results38, go_sem, z0, z1, z2, z3, z4]) rfl (MapRet.fin hBw (by omega) hzz hB0.size HB1 HO2.out HM2.out)
end Go.Proofs.Ythgkgjcnmahacaa
end

section
/- The law's two maps of two members: plain facts. -/
set_option linter.unusedSimpArgs false
set_option linter.unusedVariables false
namespace Go.Proofs.Ythgkgjcnmahacaa
open Go.RowKit Go.OpenShut

def nA : ByteArray := ⟨#[97]⟩
def nB : ByteArray := ⟨#[98]⟩
def nC : ByteArray := ⟨#[99]⟩
def tvM : List (ByteArray × JV) := [(nB, numT 1), (nA, numT 2)]
def twM : List (ByteArray × JV) := [(nA, numT 2), (nB, numT 1)]
def tvT : JV := .mk 6 0 ⟨#[]⟩ [] tvM
def twT : JV := .mk 6 0 ⟨#[]⟩ [] twM
theorem num_ok (n : Int) (h : (Lit.int .i64 n).wf = true) : (numT n).Ok := .mk (by decide) h (by decide) (by decide) (by decide) (fun i x h => by simp at h) (fun i p h => by simp at h) (fun i p h => by simp at h)
theorem tv_ok : tvT.Ok := .mk (by decide) (by decide) (by decide) (by decide) (by simp [tvM]) (fun i x h => by simp at h)
  (fun i p h => by
    match i with
    | 0 => cases h; decide
    | 1 => cases h; decide
    | i + 2 => simp [tvM] at h)
  (fun i p h => by
    match i with
    | 0 => cases h; exact num_ok _ (by decide)
    | 1 => cases h; exact num_ok _ (by decide)
    | i + 2 => simp [tvM] at h)
theorem tw_ok : twT.Ok := .mk (by decide) (by decide) (by decide) (by decide) (by simp [twM]) (fun i x h => by simp at h)
  (fun i p h => by
    match i with
    | 0 => cases h; decide
    | 1 => cases h; decide
    | i + 2 => simp [twM] at h)
  (fun i p h => by
    match i with
    | 0 => cases h; exact num_ok _ (by decide)
    | 1 => cases h; exact num_ok _ (by decide)
    | i + 2 => simp [twM] at h)
theorem tv_a : tvT.get nA = some (numT 2) := rfl
theorem tv_c : tvT.get nC = none := rfl
theorem tv_count : countT tvT = 3 := by simp [tvT, tvM, numT, countT, countL, countM]
theorem tv_with (x : JV) : (putM (tvT.place nC) tvT.mem nC x).length = 3 := rfl
theorem tv_without : (cutM tvT.mem nA).length = 1 := rfl
theorem num_sort {n : Int} {u : JV} (h : SortOf (numT n) u) : u = numT n := by
  unfold numT at h
  cases h with
  | mk el cl em cn cm st =>
    have h1 := List.eq_nil_of_length_eq_zero el
    have h2 := List.eq_nil_of_length_eq_zero em
    subst h1 h2
    have h3 := st.perm.eq_nil
    subst h3
    rfl
theorem tv_sort {u : JV} (h : SortOf tvT u) : u = twT := by
  unfold tvT at h
  cases h with
  | @mk _ _ _ _ l' _ mm m' el cl em cn cm st =>
    have h1 := List.eq_nil_of_length_eq_zero el
    subst h1
    have hmm : mm = tvM := by
      match mm, em with
      | [p, q], _ =>
        have a1 := cn 0 _ p rfl rfl
        have a2 := num_sort (cm 0 _ p rfl rfl)
        have b1 := cn 1 _ q rfl rfl
        have b2 := num_sort (cm 1 _ q rfl rfl)
        obtain ⟨p1, p2⟩ := p
        obtain ⟨q1, q2⟩ := q
        simp only at a1 a2 b1 b2
        subst a1 a2 b1 b2
        rfl
    subst hmm
    have hst : IsStable cfJ tvM twM := ⟨[((nA, numT 2), 1), ((nB, numT 1), 0)], by simpa [tvM] using List.Perm.swap _ _ _, by
      rw [List.pairwise_cons]
      refine ⟨fun a ha => ?_, List.pairwise_singleton _ _⟩
      rw [List.mem_singleton] at ha
      subst ha
      exact by decide, rfl⟩
    rw [st.unique cmpJ hst]
    rfl
theorem tv_same : SameT tvT twT := by
  refine .mk rfl rfl (fun i t u h => by simp at h) (fun i p h => ?_) (fun i j p q h1 h2 h3 => ?_)
  · match i with
    | 0 => cases h; exact by decide
    | 1 => cases h; exact by decide
    | i + 2 => simp [tvM] at h
  · match i with
    | 0 =>
      cases h1
      have : twM.findIdx? (fun q => decide (q.1 = nB)) = some 1 := rfl
      rw [this] at h2
      cases h2; cases h3
      exact .mk rfl rfl (fun i t u h => by simp at h) (fun i p h => by simp at h) (fun i j p q h => by simp at h)
    | 1 =>
      cases h1
      have : twM.findIdx? (fun q => decide (q.1 = nA)) = some 0 := rfl
      rw [this] at h2
      cases h2; cases h3
      exact .mk rfl rfl (fun i t u h => by simp at h) (fun i p h => by simp at h) (fun i j p q h => by simp at h)
    | i + 2 => simp [tvM] at h1
end Go.Proofs.Ythgkgjcnmahacaa
end

section
/- A call's own boxes and what is known of trees, carried from world to world. -/
set_option linter.unusedSimpArgs false
set_option linter.unusedVariables false
namespace Go.Proofs.Ythgkgjcnmahacaa
open Go.RowKit Go.OpenShut

/-- Below B the world is as W was. -/
def KB (B : Nat) (W w : World) : Prop := Below B W w ∧ ∀ b o, b < B → w.cell? ⟨b, o, none⟩ = W.cell? ⟨b, o, none⟩
theorem KB.mk {B : Nat} {W w : World} (h : Below B W w) : KB B W w := ⟨h, fun b o hb => h.cell (p := ⟨b, o, none⟩) hb⟩
theorem KB.fin {b B : Nat} {w W w' : World} (hk : KB B W w') (h : Below b w W) (hb : b ≤ B) : Below b w w' := h.trans (hk.1.mono hb)
theorem KB.refl (W : World) : KB W.heap.size W W := KB.mk (Below.refl _ _)
theorem KB.step {W w w' : World} (hk : KB W.heap.size W w) (h : Below w.heap.size w w') : KB W.heap.size W w' := KB.mk (hk.1.trans (h.mono hk.1.size))
theorem KB.drew (W : World) : KB W.heap.size W W.drew := KB.mk (Below.refl _ _).drew

/-- A value in a box of its own. -/
abbrev RV.obj (r : RV) : Obj := .cells #[.int .i64 r.k, .int .i64 r.n, .string r.s, .slice r.pl r.nl r.cl, .slice r.pm r.nm r.cm] 25

/-- What a walk knows at the world W: the boxes L, the trees T. -/
structure Ctx (b : Nat) (w0 W : World) (L : List (Nat × RV)) (T : List (JV × RV)) : Prop where
  below : Below b w0 W
  le : b ≤ W.heap.size
  loc : ∀ (i g : Nat) (r : RV), L[i]? = some (g, r) → g < W.heap.size ∧ VAt W g r
  tree : ∀ (i : Nat) (t : JV) (r : RV), T[i]? = some (t, r) → TreeOf W W.heap.size t r
theorem Ctx.nil (w : World) : Ctx w.heap.size w w [] [] := ⟨Below.refl _ _, Nat.le_refl _, fun i g r h => by simp at h, fun i t r h => by simp at h⟩
section
variable {b : Nat} {w0 W w : World} {L : List (Nat × RV)} {T : List (JV × RV)} (h : Ctx b w0 W L T)
include h
theorem Ctx.go (hb : Below W.heap.size W w) : Ctx b w0 w L T :=
  ⟨h.below.trans (hb.mono h.le), Nat.le_trans h.le hb.size, fun i g r hi => ⟨Nat.lt_of_lt_of_le (h.loc i g r hi).1 hb.size, (h.loc i g r hi).2.under hb (h.loc i g r hi).1⟩, fun i t r hi => (h.tree i t r hi).under hb hb.size⟩
theorem Ctx.alloc (x : RV) : Ctx b w0 (W.alloc x.obj) ((W.heap.size, x) :: L) T := by
  have g := h.go ((Below.refl _ _).alloc (Nat.le_refl _) x.obj)
  refine ⟨g.below, g.le, fun i k r hi => ?_, g.tree⟩
  cases i with
  | zero =>
    cases hi
    exact ⟨by simp, heap_alloc_at rfl⟩
  | succ i => exact g.loc i k r hi
theorem Ctx.know {t : JV} {x : RV} (hx : TreeOf W W.heap.size t x) : Ctx b w0 W L ((t, x) :: T) := by
  refine ⟨h.below, h.le, h.loc, fun i u r hi => ?_⟩
  cases i with
  | zero => cases hi; exact hx
  | succ i => exact h.tree i u r hi
theorem Ctx.box (hk : KB W.heap.size W w) {t : JV} {x : RV} (hx : TreeOf w w.heap.size t x) : Ctx b w0 (w.alloc x.obj) ((w.heap.size, x) :: L) ((t, x) :: T) :=
  ((h.go hk.1).know hx).alloc x
theorem Ctx.tk (hk : KB W.heap.size W w) (i : Nat) {t : JV} {r : RV} (hi : T[i]? = some (t, r)) : TreeOf w w.heap.size t r := (h.tree i t r hi).under hk.1 hk.1.size
theorem Ctx.lt (i : Nat) {g : Nat} {r : RV} (hi : L[i]? = some (g, r)) : g < W.heap.size := (h.loc i g r hi).1
theorem Ctx.at (i : Nat) {g : Nat} {r : RV} (hi : L[i]? = some (g, r)) : VAt W g r := (h.loc i g r hi).2
theorem Ctx.fin (hk : KB W.heap.size W w) : Below b w0 w := h.below.trans (hk.1.mono h.le)
end
end Go.Proofs.Ythgkgjcnmahacaa
end
