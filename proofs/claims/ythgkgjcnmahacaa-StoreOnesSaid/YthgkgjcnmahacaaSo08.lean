import Derived.Test.YthgkgjcnmahacaaSo07
import Derived.Test.YthgkgjcnmahacaaSo01
import Derived.Lib.Strings
import Derived.Lib.Bytealg
import Derived.Test.YthgkgjcnmahacaaSo00
import Derived.Test.YthgkgjcnmahacaaSo02
import Derived.Test.YthgkgjcnmahacaaSo05
import Derived.WalkLawsBesides
section
/- The comparison of members by their names. -/
set_option linter.unusedSimpArgs false
set_option linter.unusedVariables false
namespace Go.Proofs.Ythgkgjcnmahacaa
open Go.Shelf Go.RowKit Go.Lib Go.Sort

theorem cmpB_self : ∀ a : List UInt8, compareBytes a a = 0
  | [] => rfl
  | x :: a => by
    have h : ¬ x < x := UInt8.lt_irrefl x
    unfold compareBytes
    rw [if_neg h, if_neg h, cmpB_self a]
theorem cmpB_neg : ∀ a b : List UInt8, compareBytes b a = - compareBytes a b
  | [], [] => rfl
  | [], _ :: _ => rfl
  | _ :: _, [] => rfl
  | x :: a, y :: b => by
    have ih := cmpB_neg a b
    unfold compareBytes
    by_cases h1 : x < y
    · have h2 : ¬ y < x := fun h => UInt8.lt_irrefl x (UInt8.lt_trans h1 h)
      simp [h1, h2]
    · by_cases h2 : y < x
      · simp [h1, h2]
      · simp [h1, h2, ih]
theorem cmpB_eq : ∀ a b : List UInt8, compareBytes a b = 0 → a = b
  | [], [], _ => rfl
  | [], _ :: _, h => by simp [compareBytes] at h
  | _ :: _, [], h => by simp [compareBytes] at h
  | x :: a, y :: b, h => by
    unfold compareBytes at h
    by_cases h1 : x < y
    · simp [h1] at h
    · by_cases h2 : y < x
      · simp [h1, h2] at h
      · simp only [if_neg h1, if_neg h2] at h
        rw [cmpB_eq a b h, UInt8.le_antisymm (UInt8.not_lt.1 h2) (UInt8.not_lt.1 h1)]
theorem cmpB_ntrans : ∀ a b c : List UInt8, ¬ compareBytes a b < 0 → ¬ compareBytes b c < 0 → ¬ compareBytes a c < 0
  | [], [], c, _, h2 => h2
  | [], _ :: _, _, h1, _ => by simp [compareBytes] at h1
  | _ :: _, _, [], _, _ => by simp [compareBytes]
  | x :: a, [], z :: c, _, h2 => by simp [compareBytes] at h2
  | x :: a, y :: b, z :: c, h1, h2 => by
    have ih := cmpB_ntrans a b c
    unfold compareBytes at h1 h2 ⊢
    by_cases hxy : x < y
    · simp [hxy] at h1
    · by_cases hyz : y < z
      · simp [hyz] at h2
      · have hxz : ¬ x < z := fun h => by
          have h3 := UInt8.le_trans (UInt8.not_lt.1 hyz) (UInt8.not_lt.1 hxy)
          exact absurd h (UInt8.not_lt.2 h3)
        simp only [if_neg hxy, if_neg hyz, if_neg hxz] at h1 h2 ⊢
        by_cases hzx : z < x
        · simp [hzx]
        · have hyx : ¬ y < x := fun h => hzx (UInt8.lt_of_le_of_lt (UInt8.not_lt.1 hyz) h)
          have hzy : ¬ z < y := fun h => hzx (UInt8.lt_of_lt_of_le h (UInt8.not_lt.1 hxy))
          simp only [if_neg hyx, if_neg hzy, if_neg hzx] at h1 h2 ⊢
          exact ih h1 h2

/-- The order of names. -/
def cmpN (a b : ByteArray) : Int := compareBytes a.data.toList b.data.toList
theorem cmpN_self (a : ByteArray) : cmpN a a = 0 := cmpB_self _
theorem cmpN_neg (a b : ByteArray) : cmpN b a = - cmpN a b := cmpB_neg _ _
theorem cmpN_eq {a b : ByteArray} (h : cmpN a b = 0) : a = b := by
  have := cmpB_eq _ _ h
  obtain ⟨⟨x⟩⟩ := a
  obtain ⟨⟨y⟩⟩ := b
  simp only at this
  rw [this]
def cfM (x y : RM) : Int := cmpN x.name y.name
theorem cmpM : Cmp cfM where
  irrefl x := by unfold cfM; rw [cmpN_self]; decide
  asymm x y h := by unfold cfM at *; rw [cmpN_neg]; omega
  ntrans x y z h1 h2 := cmpB_ntrans _ _ _ h1 h2
/-- Members of a tree by their names. -/
def cfJ {γ : Type} (x y : ByteArray × γ) : Int := cmpN x.1 y.1
theorem cmpJ {γ : Type} : Cmp (cfJ (γ := γ)) where
  irrefl x := by unfold cfJ; rw [cmpN_self]; decide
  asymm x y h := by unfold cfJ at *; rw [cmpN_neg]; omega
  ntrans x y z h1 h2 := cmpB_ntrans _ _ _ h1 h2

set_option maxRecDepth 100000 in
set_option maxHeartbeats 1000000 in
theorem compareString_any (a b : ByteArray) (w : World) :
    Calls Try.prog 89 #[.string a, .string b] w fun e w' => e = .returned (.int .i64 (cmpN a b)) ∧ w' = w := by
  go_enter Try.func89, Try.ntmps89
  go_wp2
  rw [run_callFunc_extern Try.func115 (by kernel_rfl) (by kernel_rfl) (by kernel_rfl) (e := Extern.BytealgCompare.compare) (by kernel_rfl), Lib.run_compareString]
  simp only [Result.andThen]
  rw [Oper.upon_value]
  go_wp2
  go_ret
  exact ⟨rfl, rfl⟩
theorem compare_any (a b : ByteArray) (w : World) :
    Calls Try.prog 55 #[.string a, .string b] w fun e w' => e = .returned (.int .i64 (cmpN a b)) ∧ w' = w := by
  go_enter Try.func55, Try.ntmps55
  go_wp2_with (go_at_call 89; refine (compareString_any _ _ _).mono ?_; rintro e w' ⟨rfl, rfl⟩)
  go_ret
  exact ⟨rfl, rfl⟩
set_option maxRecDepth 100000 in
theorem cmpM_any : SM.CmpAny Try.prog 54 #[] encM cfM := by
  intro W x y
  obtain ⟨n1, k1, i1, s1, pl1, nl1, cl1, pm1, nm1, cm1⟩ := x
  obtain ⟨n2, k2, i2, s2, pl2, nl2, cl2, pm2, nm2, cm2⟩ := y
  simp only [encM, encV, cfM]
  show Calls Try.prog 54 #[.agg #[.string n1, .int .i64 k1, .int .i64 i1, .string s1, .slice pl1 nl1 cl1, .slice pm1 nm1 cm1], .agg #[.string n2, .int .i64 k2, .int .i64 i2, .string s2, .slice pl2 nl2 cl2, .slice pm2 nm2 cm2]] W _
  go_enter Try.func54, Try.ntmps54
  go_wp2_with (go_at_call 55; refine (compare_any _ _ _).mono ?_; rintro e w' ⟨rfl, rfl⟩)
  go_ret
  exact ⟨rfl, 0, _, by rw [alloc_eq_grow, alloc_eq_grow, grow_grow]; rfl⟩
end Go.Proofs.Ythgkgjcnmahacaa
end

section
/- A slice of the call's own: its tail cleared, its head kept; whole elements stored. Plain laws over any program. -/
set_option linter.unusedSimpArgs false
set_option linter.unusedVariables false
namespace Go.Proofs.Ythgkgjcnmahacaa
open Go Go.RowKit

theorem setCells_tail (g m : Nat) (e : TypeId) : ∀ (vs : List Value) (o : Nat) (w : World) (cur : Array Value), m ≤ o → w.heap[g]? = some (.cells cur e (0, 0)) →
    ∃ cur', (w.setCells g o vs).heap[g]? = some (.cells cur' e (0, 0)) ∧ cur'.size = cur.size ∧ cur'.toList.take m = cur.toList.take m ∧ w.grownBy (w.setCells g o vs) (some g)
  | [], o, w, cur, ho, h => ⟨cur, h, rfl, rfl, World.grownBy.refl w _⟩
  | v :: r, o, w, cur, ho, h => by
    obtain ⟨cur', h1, h2, h3, h4⟩ := setCells_tail g m e r (o + 1) (w.setCell ⟨g, o, none⟩ v) (cur.setIfInBounds o v) (by omega) (heap_setCell_same w g o cur e v h)
    refine ⟨cur', h1, by simpa using h2, ?_, ?_⟩
    · rw [h3, Array.toList_setIfInBounds, List.take_set_of_le ho]
    · have hg1 : w.grownBy (w.setCell ⟨g, o, none⟩ v) (some g) := ⟨rfl, rfl, rfl, by simp, fun k _ hk => heap_setCell_other w ⟨g, o, none⟩ k v (fun e => hk (by simp [e]))⟩
      exact hg1.trans h4
theorem zeroCells_mem (z : Array Value) (n : Nat) (h : ∀ u ∈ z.toList, u.oneCell' = true) : ∀ u ∈ (Builtin.zeroCells z n).toList, u.oneCell' = true := by
  intro u hu
  simp only [Builtin.zeroCells, Array.toList_map, Array.toList_range, List.mem_map, List.mem_range] at hu
  obtain ⟨i, hi, rfl⟩ := hu
  have hz : 0 < z.size := by
    rcases Nat.eq_zero_or_pos z.size with h0 | h0
    · rw [h0, Nat.mul_zero] at hi; omega
    · exact h0
  have hlt : i % z.size < z.size := Nat.mod_lt _ hz
  rw [getElem!_pos z (i % z.size) hlt]
  exact h _ (by simp)

section
variable {P : Program} {α : Type} {enc : α → List Value} {sz bytes : Nat} {t e : TypeId}
theorem Own.take {w : World} {base : Nat} {p : Option Addr} {n cap : Nat} {xs : List α} (C : Codec enc sz) (h : Own w base e enc sz (.slice p n cap) xs) (m : Nat) (hm : m ≤ n) : Own w base e enc sz (.slice p m cap) (xs.take m) := by
  obtain ⟨hl, h⟩ := h
  rcases h with ⟨hv, hn⟩ | ⟨g, cap', cur, hv, hg, hh, hnc, hcm, hcs, ht⟩
  · simp only [Value.slice.injEq] at hv
    obtain ⟨rfl, rfl, rfl⟩ := hv
    obtain rfl : m = 0 := by omega
    rw [List.take_zero]
    exact Own.nil w base e
  · simp only [Value.slice.injEq] at hv
    obtain ⟨rfl, rfl, rfl⟩ := hv
    have hlen : (xs.take m).length = m := by rw [List.length_take]; omega
    refine ⟨cellsOf_len C _, .inr ⟨g, cap, cur, by rw [hlen], hg, hh, by omega, hcm, hcs, ?_⟩⟩
    rw [hlen]
    have h1 : cellsOf enc xs = cellsOf enc (xs.take m) ++ cellsOf enc (xs.drop m) := by rw [← cellsOf_append, List.take_append_drop]
    have h2 : cur.toList.take (m * sz) = (cur.toList.take (xs.length * sz)).take (m * sz) := by
      rw [List.take_take, Nat.min_eq_left (Nat.mul_le_mul_right _ hm)]
    rw [h2, ht, h1]
    have h3 : (cellsOf enc (xs.take m)).length = m * sz := by rw [cellsOf_len C, hlen]
    rw [← h3, List.take_left]

/-- 'clear(s[i:])' leaves the head of a slice of the call's own. -/
theorem run_clear_own (S : SlT P t e sz bytes) (hone : ∀ i z, P.info? e = some i → i.zero = some z → ∀ u ∈ z.cells.toList, u.oneCell' = true) (C : Codec enc sz) (w : World) (ty : TypeId) {base : Nat} {p : Option Addr} {n cap m : Nat} {xs : List α}
    (h : Own w base e enc sz (.slice p n cap) xs) (hm : m ≤ n) {v : Value} (hv : v = sliced p m n cap sz) :
    ∃ w', (Builtin.clear_ #[t] ty #[v]).run P w = .ok (.tuple #[]) w' ∧ Own w' base e enc sz (.slice p m cap) (xs.take m) ∧ w.grownBy w' (Value.slice p n cap).ownBlock := by
  have hT := h.take C m hm
  obtain ⟨ht, i, z, hi, hz, hs1, hs2, hzs⟩ := S
  by_cases hmn : m = n
  · subst hmn
    refine ⟨w, ?_, hT, World.grownBy.refl w _⟩
    rw [hv]
    unfold sliced
    rw [Nat.sub_self]
    cases (if cap = m then p else p.map (·.add (m * sz))) <;> simp [Builtin.clear_, run_underlying ht]
  · obtain ⟨hl, h'⟩ := h
    rcases h' with ⟨hv', hn⟩ | ⟨g, cap', cur, hv', hg, hh, hnc, hcm, hcs, htk⟩
    · simp only [Value.slice.injEq] at hv'
      omega
    · simp only [Value.slice.injEq] at hv'
      obtain ⟨rfl, hnx, rfl⟩ := hv'
      have hsl : v = .slice (some ⟨g, m * sz, none⟩) (n - m) (cap - m) := by
        rw [hv]; unfold sliced
        rw [if_neg (by omega)]
        simp [add_eq]
      have hszn : (Builtin.zeroCells z.cells (n - m)).size = (n - m) * sz := by rw [size_zeroCells, hzs]
      have hcell : ∀ j, j < (n - m) * sz → (w.cell? ⟨g, m * sz + j, none⟩).isSome = true := by
        intro j hj
        rw [cell_of_row w g _ cur e (0, 0) hh]
        have h1 : (n - m) * sz + m * sz ≤ cap * sz := by rw [← Nat.add_mul]; exact Nat.mul_le_mul_right _ (by omega)
        rw [Array.getElem?_eq_getElem (by omega)]
        rfl
      have hst := run_storeCells_cells (P := P) g (m * sz) (Builtin.zeroCells z.cells (n - m)).toList 0 w (by intro j hj; rw [Array.length_toList, hszn] at hj; simpa using hcell j hj) (fun j hj => frozen_of_row w g _ cur e hh) (zeroCells_mem z.cells _ (hone i z hi hz))
      rw [Nat.add_zero] at hst
      obtain ⟨cur', h1, h2, h3, h4⟩ := setCells_tail g (m * sz) e (Builtin.zeroCells z.cells (n - m)).toList (m * sz) w cur (Nat.le_refl _) hh
      refine ⟨_, ?_, ?_, h4⟩
      · rw [hsl]
        obtain ⟨k, hk⟩ : ∃ k, n - m = k + 1 := ⟨n - m - 1, by omega⟩
        rw [hk] at hst ⊢
        simp [Builtin.clear_, run_underlying ht, zeroValue, typeInfo, hi, hz, hst]
      · have hlen : (xs.take m).length = m := by rw [List.length_take]; omega
        obtain ⟨hl2, h2'⟩ := hT
        rcases h2' with ⟨hv2, _⟩ | ⟨g2, cap2, cur2, hv2, _, hh2, _, _, _, ht2⟩
        · simp at hv2
        · simp only [Value.slice.injEq, Option.some.injEq, Addr.mk.injEq, and_true, true_and] at hv2
          obtain ⟨rfl, _, rfl⟩ := hv2
          rw [hh] at hh2
          cases hh2
          refine ⟨hl2, .inr ⟨g, cap, cur', by rw [hlen], hg, h1, by omega, hcm, by omega, ?_⟩⟩
          rw [hlen] at ht2 ⊢
          rw [h3]
          exact ht2
theorem wpList_clear_own {ops : Array Oper} {rest : List Oper} {o : Oper} {a : Act} {Q : Exit → Act → World → Prop} (S : SlT P t e sz bytes) (hone : ∀ i z, P.info? e = some i → i.zero = some z → ∀ u ∈ z.cells.toList, u.oneCell' = true) (C : Codec enc sz) (w : World) (hgd : o.guard = none) (s : Operand)
    (ho : o.op = .call { callee := .builtin .clear, args := #[s], argTypes := #[t] }) {base : Nat} {p : Option Addr} {n cap m : Nat} {xs : List α} {v : Value} (hs : a.eval s = v) (hv : v = sliced p m n cap sz) (hown : Own w base e enc sz (.slice p n cap) xs) (hm : m ≤ n)
    (h : ∀ w', Own w' base e enc sz (.slice p m cap) (xs.take m) → w.grownBy w' (Value.slice p n cap).ownBlock → wpList P ops Q rest (a.put o.dst (.tuple #[])) w') : wpList P ops Q (o :: rest) a w :=
  wpList_plain hgd fun K hK => by
    obtain ⟨w', hrun, h2, h3⟩ := run_clear_own S hone C w o.type hown hm hv
    unfold Oper.wp execOp
    simp only [ho, resolve, invoke, builtin, Sem.run_bind, Sem.run_pure, Result.andThen_ok, List.map_toArray, List.map_cons, List.map_nil, hs, hrun]
    exact hK _ _ (h w' h2 h3)
theorem run_slice_low (S : SlT P t e sz bytes) (p : Option Addr) (n cap m : Nat) (hm : m ≤ n) (W : World) : (Instr.sliceAt t (.slice p n cap) (some (.int .i64 m)) none none).run P W = .ok (sliced p m n cap sz) W := by
  obtain ⟨ht, i, z, hi, hz, hs1, hs2, hzs⟩ := S
  have he : P.elem t = e := by simp [Program.elem, ht]
  have ht' : P.underlying t = some (.slice (P.elem t)) := by rw [he]; exact ht
  rw [run_sliceAt_slice _ _ _ _ _ _ ht', run_slice_l W t p n cap ht' .i64 m (by omega) (by omega), he]
  simp [sizeOf, typeInfo, hi, hs1, Result.andThen]
theorem run_slice_high (S : SlT P t e sz bytes) (p : Option Addr) (n cap m : Nat) (hm : m ≤ cap) (W : World) : (Instr.sliceAt t (.slice p n cap) none (some (.int .i64 m)) none).run P W = .ok (.slice p m cap) W := by
  obtain ⟨ht, i, z, hi, hz, hs1, hs2, hzs⟩ := S
  have he : P.elem t = e := by simp [Program.elem, ht]
  have ht' : P.underlying t = some (.slice (P.elem t)) := by rw [he]; exact ht
  rw [run_sliceAt_slice _ _ _ _ _ _ ht', run_slice_h W t p n cap ht' .i64 m (by omega) (by omega), he]
  have hp : p.map (fun a => a.add 0) = p := by cases p <;> simp [Addr.add]
  have hsl : sliced p 0 m cap sz = .slice p m cap := by unfold sliced; simp [hp]
  simp [sizeOf, typeInfo, hi, hs1, Result.andThen, hsl]
end
end Go.Proofs.Ythgkgjcnmahacaa
end

section
/- tree.Without, walked: the library's DeleteFunc at members. -/
set_option linter.unusedSimpArgs false
set_option linter.unusedVariables false
namespace Go.Proofs.Ythgkgjcnmahacaa
open Go.RowKit Go.OpenShut

set_option maxRecDepth 100000 in
theorem isName_any (x : RM) (g : Nat) (name : ByteArray) (w : World) (hg : w.cell? ⟨g, 0, none⟩ = some (.string name)) :
    Calls Try.prog 80 #[x.val, .pointer (some ⟨g, 0, none⟩)] w fun e w' => e = .returned (.bool (decide (x.name = name))) ∧ Below w.heap.size w w' := by
  obtain ⟨nm, k, n, s, pl, nl, cl, pm, nm', cm⟩ := x
  dsimp only [RM.val]
  have hlt := (cell_some hg).2
  have hne := World.new_ne w ⟨g, 0, none⟩ hg
  have hB : Below w.heap.size w (w.alloc (.cells #[.string nm, .int .i64 k, .int .i64 n, .string s, .slice pl nl cl, .slice pm nm' cm] 90)) := (Below.refl _ _).alloc (Nat.le_refl _) _
  have hc := bcs hB hlt hg
  have hq := str_beq nm name
  have HQ := Lib.hid hq
  clear hq
  go_enter Try.func80, Try.ntmps80
  go_wp2_with fail
  go_ret
  exact ⟨by rw [← HQ.out]; rfl, hB⟩

/-- The function value that asks for a name. -/
abbrev isNameV (g : Nat) : Value := .func (.func 80) #[] #[.pointer (some ⟨g, 0, none⟩)]
def nameB (name : ByteArray) (x : RM) : Bool := decide (x.name = name)

set_option maxRecDepth 100000 in
set_option maxHeartbeats 1000000 in
theorem indexFunc_any (w : World) (p : Option Addr) (n c : Nat) (rms : List RM) (hv : Rd w w.heap.size encM 6 (.slice p n c) rms) (g : Nat) (name : ByteArray) (hg : w.cell? ⟨g, 0, none⟩ = some (.string name)) (hlen : rms.length ≤ 1466015503658) :
    Calls Try.prog 106 #[.slice p n c, isNameV g] w fun e w' => e = .returned (.int .i64 (placeI (rms.findIdx? (nameB name)))) ∧ Below w.heap.size w w' := by
  have hn := rd_nlen hv
  subst hn
  have HV := Lib.hid hv
  have hgl := (cell_some hg).2
  clear hv
  go_enter Try.func106, Try.ntmps106
  go_wp2_with fail
  go_loopw [8] (fun i wr => ∃ k : Nat, k ≤ rms.length ∧ i = .int .i64 k ∧ Hid (∀ (j : Nat) y, j < k → rms[j]? = some y → nameB name y = false) ∧ Below w.heap.size w wr) (fun i _ => rms.length - (intOf i).toNat)
  case atStart => exact ⟨0, Nat.zero_le _, rfl, fun j y h => by omega, Below.refl _ _⟩
  case round =>
    obtain ⟨k, hk, rfl, hno, hbr⟩ := hrel
    by_cases hlt : k < rms.length
    · obtain ⟨x, hx⟩ : ∃ x, rms[k]? = some x := ⟨_, List.getElem?_eq_getElem hlt⟩
      obtain ⟨b1, o1, rfl, hb1, hc1⟩ := rd_at' (HV.out.below hbr (Nat.le_refl _)) hx
      have f0 := hc1 0 _ rfl
      have f1 := hc1 1 _ rfl
      have f2 := hc1 2 _ rfl
      have f3 := hc1 3 _ rfl
      have f4 := hc1 4 _ rfl
      have f5 := hc1 5 _ rfl
      rw [Nat.add_zero] at f0
      have HX := Lib.hid hx
      have hz := hbr.size
      have HBR := Lib.hid hbr
      have hgr := Lib.hid (bcs hbr hgl hg)
      cases hnb : nameB name x with
      | true =>
        have HF := Lib.hid (find_at HX.out hnb hno.out)
        have HNB : Hid (decide (x.name = name) = true) := hnb
        clear hx hc1 hbr hnb hno hg
        go_wp2_with (go_at_call 80; refine (isName_any x g name _ hgr.out).mono ?_; rintro e w1 ⟨rfl, hb1'⟩; rw [HNB.out])
        go_ret
        exact ⟨ret_int (by rw [HF.out]; rfl), HBR.out.trans (hb1'.mono HBR.out.size)⟩
      | false =>
        have HNB : Hid (decide (x.name = name) = false) := hnb
        have HNX : Hid (∀ (j : Nat) y, j < k + 1 → rms[j]? = some y → nameB name y = false) := by
          intro j y hj hy
          by_cases e : j = k
          · subst e
            rw [hx] at hy
            cases hy
            exact hnb
          · exact hno.out j y (by omega) hy
        clear hx hc1 hbr hnb hno hg
        go_wp2_with (go_at_call 80; refine (isName_any x g name _ hgr.out).mono ?_; rintro e w1 ⟨rfl, hb1'⟩; rw [HNB.out])
        go_roundw
        case rel => exact ⟨k + 1, by omega, by go_num, HNX, HBR.out.trans (hb1'.mono HBR.out.size)⟩
        case measure => simp [intOf]; omega
    · obtain rfl : k = rms.length := by omega
      have HF := Lib.hid (find_not (p := nameB name) (l := rms) (fun j y hy => hno.out j y (List.getElem?_eq_some_iff.1 hy).1 hy))
      go_wp2_with fail
      go_ret
      exact ⟨ret_int (by rw [HF.out]; rfl), hbr⟩

theorem Own.storedM {w : World} {base : Nat} {g n cap : Nat} {xs : List RM} (h : Own w base 90 encM 6 (.slice (some ⟨g, 0, none⟩) n cap) xs) {k : Nat} {x : RM} (hx : xs[k]? = some x) (nm : ByteArray) (q : RV) :
    Own ((((((w.setCell ⟨g, k * 6, none⟩ (.string nm)).setCell ⟨g, k * 6 + 1, none⟩ (.int .i64 q.k)).setCell ⟨g, k * 6 + 2, none⟩ (.int .i64 q.n)).setCell ⟨g, k * 6 + 3, none⟩ (.string q.s)).setCell ⟨g, k * 6 + 4, none⟩ (.slice q.pl q.nl q.cl)).setCell ⟨g, k * 6 + 5, none⟩ (.slice q.pm q.nm q.cm)) base 90 encM 6 (.slice (some ⟨g, 0, none⟩) n cap) (xs.set k ⟨nm, q⟩) ∧
    w.grownBy ((((((w.setCell ⟨g, k * 6, none⟩ (.string nm)).setCell ⟨g, k * 6 + 1, none⟩ (.int .i64 q.k)).setCell ⟨g, k * 6 + 2, none⟩ (.int .i64 q.n)).setCell ⟨g, k * 6 + 3, none⟩ (.string q.s)).setCell ⟨g, k * 6 + 4, none⟩ (.slice q.pl q.nl q.cl)).setCell ⟨g, k * 6 + 5, none⟩ (.slice q.pm q.nm q.cm)) (some g) := by
  have hk := (List.getElem?_eq_some_iff.1 hx).1
  have s1 := Own.storedAt codecM h (j := 0) (y := ⟨nm, x.v⟩) (u := .string nm) hx (by decide) rfl
  have s2 := Own.storedV s1.1 (k := k) (x := ⟨nm, x.v⟩) (by simp [List.getElem?_set, hk]) q
  simp only [List.set_set] at s2
  exact ⟨s2.1, s1.2.trans s2.2⟩
def MAt (W : World) (g : Nat) (x : RM) : Prop := W.heap[g]? = some (.cells #[.string x.name, .int .i64 x.v.k, .int .i64 x.v.n, .string x.v.s, .slice x.v.pl x.v.nl x.v.cl, .slice x.v.pm x.v.nm x.v.cm] 90 (0, 0))
theorem MAt.cell {W : World} {g : Nat} {r : RM} (h : MAt W g r) (j : Nat) {u : Value} (hu : (encM r)[j]? = some u) : W.cell? ⟨g, j, none⟩ = some u := by
  unfold MAt at h
  rw [cell_of_row W g j _ _ _ h, ← Array.getElem?_toList]
  exact hu
theorem MAt.under {W W' : World} {g B : Nat} {r : RM} (h : MAt W g r) (hb : Below B W W') (hg : g < B) : MAt W' g r := (hb.block g hg).trans h
theorem oneM : ∀ i z, Try.prog.info? 90 = some i → i.zero = some z → ∀ u ∈ z.cells.toList, u.oneCell' = true := by
  intro i z hi hz
  have h : (Try.prog.info? 90).map (fun i => (i.zero, i.size, i.bytes)) = some (some (.agg #[.string ByteArray.empty, .int .i64 0, .int .i64 0, .string ByteArray.empty, .slice none 0 0, .slice none 0 0]), 6, 96) := by kernel_rfl
  rw [hi] at h
  simp only [Option.map_some, Option.some.injEq, Prod.mk.injEq] at h
  rw [hz] at h
  simp only [Option.some.injEq] at h
  rw [h.1]
  intro u hu
  simp [Value.cells] at hu
  rcases hu with rfl | rfl | rfl | rfl | rfl | rfl <;> rfl

structure DelRel (rms : List RM) (name : ByteArray) (a b : Nat) (cur : List RM) : Prop where
  lt : a < b
  len : cur.length = rms.length
  head : cur.take a = (rms.take b).filter (fun x => !nameB name x)
  tail : cur.drop b = rms.drop b
theorem DelRel.start {rms : List RM} {name : ByteArray} {i : Nat} (h : rms.findIdx? (nameB name) = some i) : DelRel rms name i (i + 1) rms := by
  rw [List.findIdx?_eq_some_iff_getElem] at h
  obtain ⟨h1, h2, h3⟩ := h
  refine ⟨by omega, rfl, ?_, rfl⟩
  rw [List.take_add_one, List.getElem?_eq_getElem h1, List.filter_append]
  have e1 : (rms.take i).filter (fun x => !nameB name x) = rms.take i := by
    rw [List.filter_eq_self]
    intro x hx
    obtain ⟨j, hj⟩ := List.getElem?_of_mem hx
    rw [List.getElem?_take] at hj
    split at hj
    · have := h3 j (by assumption)
      rw [List.getElem?_eq_getElem (by omega)] at hj
      cases hj
      simpa using this
    · cases hj
  rw [e1]
  simp [h2]
theorem DelRel.at {rms cur : List RM} {name : ByteArray} {a b : Nat} (h : DelRel rms name a b cur) {x : RM} (hx : rms[b]? = some x) : cur[b]? = some x := by
  have h1 : (cur.drop b)[0]? = (rms.drop b)[0]? := by rw [h.tail]
  simpa [List.getElem?_drop, hx] using h1
theorem DelRel.skip {rms cur : List RM} {name : ByteArray} {a b : Nat} (h : DelRel rms name a b cur) {x : RM} (hx : rms[b]? = some x) (hn : nameB name x = true) : DelRel rms name a (b + 1) cur := by
  refine ⟨by have := h.lt; omega, h.len, ?_, ?_⟩
  · rw [List.take_add_one, hx, List.filter_append, ← h.head]
    simp [hn]
  · rw [← List.drop_drop (i := 1) (j := b), ← List.drop_drop (i := 1) (j := b), h.tail]
theorem DelRel.keep {rms cur : List RM} {name : ByteArray} {a b : Nat} (h : DelRel rms name a b cur) {x : RM} (hx : rms[b]? = some x) (hn : nameB name x = false) : DelRel rms name (a + 1) (b + 1) (cur.set a x) := by
  have hl := h.lt
  have hbl := (List.getElem?_eq_some_iff.1 hx).1
  refine ⟨by omega, by rw [List.length_set, h.len], ?_, ?_⟩
  · rw [List.take_add_one, List.take_set_of_le (Nat.le_refl _), List.getElem?_set_self (by have := h.len; omega), List.take_add_one, hx, List.filter_append, ← h.head]
    simp [hn]
  · rw [List.drop_set_of_lt (by omega), ← List.drop_drop (i := 1) (j := b), ← List.drop_drop (i := 1) (j := b), h.tail]
theorem DelRel.done {rms cur : List RM} {name : ByteArray} {a : Nat} (h : DelRel rms name a rms.length cur) : cur.take a = rms.filter (fun x => !nameB name x) := by
  have := h.head
  rwa [List.take_length] at this

set_option maxRecDepth 100000 in
set_option maxHeartbeats 2000000 in
theorem deleteFunc_any (w : World) (base : Nat) (p : Option Addr) (n c : Nat) (rms : List RM) (hv : Own w base 90 encM 6 (.slice p n c) rms) (hb : base ≤ w.heap.size) (g : Nat) (name : ByteArray) (hg : w.cell? ⟨g, 0, none⟩ = some (.string name)) (hgb : g < base) (hlen : rms.length ≤ 1466015503658) :
    Calls Try.prog 79 #[.slice p n c, isNameV g] w fun e w' => ∃ m, e = .returned (.slice p m c) ∧ Own w' base 90 encM 6 (.slice p m c) (rms.filter (fun x => !nameB name x)) ∧ Below base w w' := by
  have hn := rd_nlen (hv.rd codecM)
  subst hn
  have HI := Lib.hid (indexFunc_any w p rms.length c rms (hv.rd codecM) g name hg hlen)
  have HV := Lib.hid hv
  have HG := Lib.hid hg
  clear hv hg
  cases hf : rms.findIdx? (nameB name) with
  | none =>
    have HF := Lib.hid hf
    clear hf
    go_enter Try.func79, Try.ntmps79
    go_wp2_with (go_at_call 106; refine HI.out.mono ?_; rintro e w1 ⟨rfl, hb1⟩; rw [HF.out]; (have hn1 : placeI (none : Option Nat) = -1 := rfl); rw [hn1]; go_frame)
    go_ret
    refine ⟨rms.length, rfl, ?_, hb1.mono hb⟩
    have e1 : rms.filter (fun x => !nameB name x) = rms := by
      rw [List.filter_eq_self]
      intro x hx
      have := List.findIdx?_eq_none_iff.1 HF.out x hx
      simpa using this
    rw [e1]
    exact HV.out.below hb1 (Nat.le_refl _)
  | some i =>
    have HF := Lib.hid hf
    have hst := DelRel.start hf
    have hi := hst.lt
    have hil : i < rms.length := by rw [List.findIdx?_eq_some_iff_getElem] at hf; exact hf.1
    have HST := Lib.hid hst
    have hne : ((i : Int) == -1) = false := by rw [beq_eq_false_iff_ne]; omega
    clear hf hst
    go_enter Try.func79, Try.ntmps79
    go_wp2_with (go_at_call 106; refine HI.out.mono ?_; rintro e w1 ⟨rfl, hb1⟩; rw [HF.out]; (have hn1 : placeI (some i) = (i : Int) := rfl); rw [hn1]; clear hn1; go_frame)
    have hz1 : w.heap.size ≤ w1.heap.size := hb1.size
    have HB1 : Hid (Below base w w1) := hb1.mono hb
    have hO1 : Hid (Own w1 base 90 encM 6 (.slice p rms.length c) rms) := HV.out.below hb1 (Nat.le_refl _)
    clear hb1
    go_loopw [5, 6] (fun x y wr => ∃ (a b : Nat) (cur : List RM), x = .int .i64 a ∧ y = .int .i64 b ∧ b ≤ rms.length ∧ Hid (DelRel rms name a b cur) ∧ Hid (Own wr base 90 encM 6 (.slice p rms.length c) cur) ∧ Below base w wr) (fun _ y _ => rms.length - (intOf y).toNat)
    case atStart => exact ⟨i, i + 1, rms, rfl, by go_num, by omega, HST, hO1, HB1.out⟩
    case round =>
      obtain ⟨a, b, cur, rfl, rfl, hbn, HD, HO, hbr⟩ := hrel
      have hab : a < b := HD.out.lt
      have hzr := hbr.size
      by_cases hlt : b < rms.length
      · obtain ⟨x, hx⟩ : ∃ x, rms[b]? = some x := ⟨_, List.getElem?_eq_getElem hlt⟩
        have hcx := HD.out.at hx
        obtain ⟨xa, hxa⟩ : ∃ xa, cur[a]? = some xa := ⟨_, List.getElem?_eq_getElem (by rw [HD.out.len]; omega)⟩
        obtain ⟨gg, hpg, hnn, hga, hgb', hcell, hfr⟩ := Own.at codecM HO.out hcx
        subst hpg
        have f0 := hcell 0 _ rfl
        have f1 := hcell 1 _ rfl
        have f2 := hcell 2 _ rfl
        have f3 := hcell 3 _ rfl
        have f4 := hcell 4 _ rfl
        have f5 := hcell 5 _ rfl
        rw [Nat.add_zero] at f0
        have hgr := bcs hbr hgb HG.out
        have HX := Lib.hid hx
        have HXA := Lib.hid hxa
        have HBR := Lib.hid hbr
        have hb0 : (0 : Int) ≤ (b : Int) := Int.natCast_nonneg _
        have hb1 : (b : Int) < (rms.length : Int) := by omega
        have ha0 : (0 : Int) ≤ (a : Int) := Int.natCast_nonneg _
        have ha1 : (a : Int) < (rms.length : Int) := by omega
        have hM0 : MAt (wr.alloc (.cells #[.string x.name, .int .i64 x.v.k, .int .i64 x.v.n, .string x.v.s, .slice x.v.pl x.v.nl x.v.cl, .slice x.v.pm x.v.nm x.v.cm] 90)) wr.heap.size x := heap_alloc_at rfl
        have HM0 := Lib.hid hM0
        have hA := HBR.out.alloc (Nat.le_trans hb hzr) (.cells #[.string x.name, .int .i64 x.v.k, .int .i64 x.v.n, .string x.v.s, .slice x.v.pl x.v.nl x.v.cl, .slice x.v.pm x.v.nm x.v.cm] 90)
        have HA := Lib.hid hA
        have hgr2 := bcs hA hgb HG.out
        have HGR := Lib.hid hgr2
        clear hx hxa hcx hcell hfr hnn hbr hgr hgr2 hA hM0
        cases hnb : nameB name x with
        | true =>
          have HNB : Hid (decide (x.name = name) = true) := hnb
          have HN := Lib.hid (HD.out.skip HX.out hnb)
          clear hnb
          go_wp2_with (go_at_call 80; refine (isName_any x g name _ HGR.out).mono ?_; rintro e w2 ⟨rfl, hb2⟩; rw [HNB.out])
          go_roundw
          case rel => exact ⟨a, b + 1, cur, rfl, by go_num, by omega, HN, (HO.out.alloc _).below hb2 (Nat.le_refl _), HA.out.trans (hb2.mono (Nat.le_trans hb HA.out.size))⟩
          case measure => simp [intOf]; omega
        | false =>
          have HNB : Hid (decide (x.name = name) = false) := hnb
          have HN := Lib.hid (HD.out.keep HX.out hnb)
          clear hnb
          go_upto_region 9 with (go_at_call 80; refine (isName_any x g name _ HGR.out).mono ?_; rintro e w2 ⟨rfl, hb2⟩; rw [HNB.out])
          have hM2 := HM0.out.under hb2 (by simp)
          have v0 := hM2.cell 0 rfl
          have v1 := hM2.cell 1 rfl
          have v2 := hM2.cell 2 rfl
          have v3 := hM2.cell 3 rfl
          have v4 := hM2.cell 4 rfl
          have v5 := hM2.cell 5 rfl
          have hO2 := (HO.out.alloc (.cells #[.string x.name, .int .i64 x.v.k, .int .i64 x.v.n, .string x.v.s, .slice x.v.pl x.v.nl x.v.cl, .slice x.v.pm x.v.nm x.v.cm] 90)).below hb2 (Nat.le_refl _)
          obtain ⟨g2, hpg2, hnn2, hga2, hgb2, hcell2, hfr2⟩ := Own.at codecM hO2 HXA.out
          simp only [Option.some.injEq, Addr.mk.injEq, and_true] at hpg2
          subst hpg2
          have t0 := hcell2 0 _ rfl
          have t1 := hcell2 1 _ rfl
          have t2 := hcell2 2 _ rfl
          have t3 := hcell2 3 _ rfl
          have t4 := hcell2 4 _ rfl
          have t5 := hcell2 5 _ rfl
          rw [Nat.add_zero] at t0
          have s0 := hfr2 (a * 6)
          have s1 := hfr2 (a * 6 + 1)
          have s2 := hfr2 (a * 6 + 2)
          have s3 := hfr2 (a * 6 + 3)
          have s4 := hfr2 (a * 6 + 4)
          have s5 := hfr2 (a * 6 + 5)
          have HST2 := Lib.hid (Own.storedM hO2 HXA.out x.name x.v)
          have HB2 : Hid (Below base w w2) := HA.out.trans (hb2.mono (Nat.le_trans hb HA.out.size))
          have hz2 : w.heap.size ≤ w2.heap.size := HB2.out.size
          clear hcell2 hfr2 hnn2 hb2 hM2 hO2 f0 f1 f2 f3 f4 f5
          go_wp2_with fail
          go_roundw
          case rel => exact ⟨a + 1, b + 1, _, by go_num, by go_num, by omega, HN, HST2.out.1, HB2.out.grown HST2.out.2 (by omega) (fun j e => by cases e; exact hga)⟩
          case measure => simp [intOf]; omega
      · obtain rfl : b = rms.length := by omega
        have hal : a ≤ rms.length := by omega
        have hsl := fun W => run_slice_low (P := Try.prog) slM p rms.length c a hal W
        have hcap : rms.length ≤ c := by
          obtain ⟨_, _, e, h1, _⟩ := HO.out.rd codecM
          simp only [Value.slice.injEq] at e
          have := HD.out.len
          omega
        have hsh := fun W => run_slice_high (P := Try.prog) slM p rms.length c a (by omega) W
        have HBR := Lib.hid hbr
        have HDD := Lib.hid HD.out.done
        clear hbr HD
        obtain ⟨w2, hrun, ho2, hg2⟩ := run_clear_own (P := Try.prog) slM oneM codecM wr 0 HO.out hal (v := .slice (p.map (fun x => x.add (a * 6))) (rms.length - a) (c - a)) (by unfold sliced; rw [if_neg (by omega)])
        have HO2 := Lib.hid ho2
        have HG2 := Lib.hid hg2
        clear ho2 hg2
        go_wp2_with fail
        go_ret
        exact ⟨a, rfl, by rw [← HDD.out]; exact HO2.out, HBR.out.grown HG2.out (by omega) (fun j e => (HO.out.lt j e).1)⟩
end Go.Proofs.Ythgkgjcnmahacaa
end

section
/- Where an object of an id stands, walked: the library's BinarySearchFunc at objects. -/
set_option linter.unusedSimpArgs false
set_option linter.unusedVariables false
namespace Go.Proofs.Ythgkgjcnmahacaa
open Go.RowKit Go.OpenShut

/-- How many objects of lesser ids there are; whether the next one is of this id. -/
def lowN (os : List (ByteArray × JV)) (id : ByteArray) : Nat := (os.takeWhile (fun p => decide (cmpN p.1 id < 0))).length
def isAt (os : List (ByteArray × JV)) (id : ByteArray) : Bool := match os[lowN os id]? with
  | some p => decide (p.1 = id)
  | none => false
/-- Objects rise by their ids. -/
def Rising (os : List (ByteArray × JV)) : Prop := ∀ (i j : Nat) p q, i < j → os[i]? = some p → os[j]? = some q → cmpN p.1 q.1 < 0
theorem lowN_of : ∀ {os : List (ByteArray × JV)} {id : ByteArray} {a : Nat}, a ≤ os.length → (∀ k x, k < a → os[k]? = some x → cmpN x.1 id < 0) → (∀ k x, a ≤ k → os[k]? = some x → ¬ cmpN x.1 id < 0) → lowN os id = a
  | [], id, a, h, _, _ => by simp [lowN]; simp at h; omega
  | p :: os, id, 0, h, h1, h2 => by
    have := h2 0 p (Nat.le_refl _) rfl
    simp [lowN, List.takeWhile_cons, this]
  | p :: os, id, a + 1, h, h1, h2 => by
    have h0 := h1 0 p (by omega) rfl
    have ih := lowN_of (os := os) (id := id) (a := a) (by simpa using h) (fun k x hk hx => h1 (k + 1) x (by omega) (by simpa using hx)) (fun k x hk hx => h2 (k + 1) x (by omega) (by simpa using hx))
    unfold lowN at ih ⊢
    rw [List.takeWhile_cons, if_pos (by simpa using h0)]
    simp [ih]
theorem cmpN_lt_trans {a b c : ByteArray} (h1 : cmpN a b < 0) (h2 : ¬ cmpN c b < 0) : cmpN a c < 0 := by
  by_cases h : cmpN a c < 0
  · exact h
  · exact absurd h1 (cmpB_ntrans _ _ _ h h2)
theorem Rising.low {os : List (ByteArray × JV)} (hr : Rising os) {id : ByteArray} {h : Nat} {x : ByteArray × JV} (hx : os[h]? = some x) (hc : cmpN x.1 id < 0) : ∀ k y, k < h + 1 → os[k]? = some y → cmpN y.1 id < 0 := by
  intro k y hk hy
  by_cases e : k = h
  · subst e
    rw [hx] at hy
    cases hy
    exact hc
  · have := hr k h y x (by omega) hy hx
    by_cases g : cmpN y.1 id < 0
    · exact g
    · have h3 := cmpN_neg y.1 x.1
      have : ¬ cmpN y.1 x.1 < 0 := cmpB_ntrans _ _ _ g (by have h4 := cmpN_neg x.1 id; show ¬ cmpN id x.1 < 0; omega)
      omega
theorem Rising.high {os : List (ByteArray × JV)} (hr : Rising os) {id : ByteArray} {h : Nat} {x : ByteArray × JV} (hx : os[h]? = some x) (hc : ¬ cmpN x.1 id < 0) : ∀ k y, h ≤ k → os[k]? = some y → ¬ cmpN y.1 id < 0 := by
  intro k y hk hy
  by_cases e : k = h
  · subst e
    rw [hx] at hy
    cases hy
    exact hc
  · have h1 := hr h k x y (by omega) hx hy
    have h2 := cmpN_neg x.1 y.1
    exact cmpB_ntrans _ _ _ (by show ¬ cmpN y.1 x.1 < 0; omega) hc

def Lows (os : List (ByteArray × JV)) (id : ByteArray) (a : Nat) : Prop := ∀ k x, k < a → os[k]? = some x → cmpN x.1 id < 0
def Highs (os : List (ByteArray × JV)) (id : ByteArray) (b : Nat) : Prop := ∀ k x, b ≤ k → os[k]? = some x → ¬ cmpN x.1 id < 0
abbrev placeF : Value := .func (.func 96) #[] #[]
set_option maxRecDepth 100000 in
theorem place1_any (x : RM) (id : ByteArray) (w : World) :
    Calls Try.prog 96 #[x.val, .string id] w fun e w' => e = .returned (.int .i64 (cmpN x.name id)) ∧ Below w.heap.size w w' := by
  obtain ⟨nm, k, n, s, pl, nl, cl, pm, nm', cm⟩ := x
  dsimp only [RM.val]
  have hB : Below w.heap.size w (w.alloc (.cells #[.string nm, .int .i64 k, .int .i64 n, .string s, .slice pl nl cl, .slice pm nm' cm] 46)) := (Below.refl _ _).alloc (Nat.le_refl _) _
  go_enter Try.func96, Try.ntmps96
  go_wp2_with (go_at_call 55; refine (compare_any _ _ _).mono ?_; rintro e w' ⟨rfl, rfl⟩)
  go_ret
  exact ⟨rfl, hB⟩

set_option maxRecDepth 100000 in
set_option maxHeartbeats 2000000 in
theorem binarySearch_any (w : World) (p : Option Addr) (n c : Nat) (os : List (ByteArray × JV)) (id : ByteArray) (hv : ObjsOf w w.heap.size os (.slice p n c)) (hr : Rising os) (hlen : os.length ≤ 1466015503658) :
    Calls Try.prog 95 #[.slice p n c, .string id, placeF] w fun e w' => e = .returned (.tuple #[.int .i64 (lowN os id : Nat), .bool (isAt os id)]) ∧ Below w.heap.size w w' := by
  obtain ⟨rms, hv, hms⟩ := hv
  have hn := rd_nlen hv
  have hlm := hms.len
  have HV := Lib.hid hv
  have HR := Lib.hid hr
  have HN : Hid (os.length = n ∧ rms.length = n) := ⟨by omega, by omega⟩
  have HM := Lib.hid hms.name
  have hn1 : n ≤ 1466015503658 := by omega
  clear hv hr hn hlm hms hlen
  go_enter Try.func95, Try.ntmps95
  go_wp2_with fail
  go_loopw [9, 10] (fun i j wr => ∃ a b : Nat, a ≤ b ∧ b ≤ n ∧ i = .int .i64 a ∧ j = .int .i64 b ∧ Lows os id a ∧ Highs os id b ∧ Below w.heap.size w wr) (fun i j _ => (intOf j).toNat - (intOf i).toNat)
  case atStart => exact ⟨0, n, Nat.zero_le _, Nat.le_refl _, rfl, rfl, fun k x h => by omega, fun k x h1 h2 => by have := (List.getElem?_eq_some_iff.1 h2).1; have := HN.out; omega, Below.refl _ _⟩
  case round =>
    obtain ⟨a, b, hab, hbn, rfl, rfl, hlo, hhi, hbr⟩ := hrel
    by_cases hlt : a < b
    · obtain ⟨h, hh⟩ : ∃ h, (a + b) / 2 = h := ⟨_, rfl⟩
      have h1 : a ≤ h ∧ h < b := by omega
      have eh : ((a : Int) + (b : Int)) / 2 = (h : Int) := by omega
      have h0 : (0 : Int) ≤ (h : Int) := Int.natCast_nonneg _
      have h2 : (h : Int) < (n : Int) := by omega
      obtain ⟨y, hy⟩ : ∃ x, os[h]? = some x := ⟨_, List.getElem?_eq_getElem (by have := HN.out; omega)⟩
      obtain ⟨x, hx⟩ : ∃ x, rms[h]? = some x := ⟨_, List.getElem?_eq_getElem (by have := HN.out; omega)⟩
      have hyn := HM.out h y x hy hx
      obtain ⟨b1, o1, rfl, hb1, hc1⟩ := rd_at' (HV.out.below hbr (Nat.le_refl _)) hx
      have f0 := hc1 0 _ rfl
      have f1 := hc1 1 _ rfl
      have f2 := hc1 2 _ rfl
      have f3 := hc1 3 _ rfl
      have f4 := hc1 4 _ rfl
      have f5 := hc1 5 _ rfl
      rw [Nat.add_zero] at f0
      have HBR := Lib.hid hbr
      clear hx hc1 hbr hh
      by_cases hc : cmpN y.1 id < 0
      · have HL : Lows os id (h + 1) := HR.out.low hy hc
        have HC : Hid (cmpN x.name id < 0) := by rw [← hyn]; exact hc
        clear hy hc hyn hlo
        go_wp2_with (go_at_call 96; refine (place1_any x id _).mono ?_; rintro e w1 ⟨rfl, hb1'⟩; have hcc := HC.out)
        go_roundw
        case rel => exact ⟨h + 1, b, by omega, hbn, by go_num, rfl, HL, hhi, HBR.out.trans (hb1'.mono HBR.out.size)⟩
        case measure => simp [intOf]; omega
      · have HL : Highs os id h := HR.out.high hy hc
        have HC : Hid (¬ cmpN x.name id < 0) := by rw [← hyn]; exact hc
        clear hy hc hyn hhi
        go_wp2_with (go_at_call 96; refine (place1_any x id _).mono ?_; rintro e w1 ⟨rfl, hb1'⟩; have hcc := HC.out)
        go_roundw
        case rel => exact ⟨a, h, by omega, by omega, rfl, rfl, hlo, HL, HBR.out.trans (hb1'.mono HBR.out.size)⟩
        case measure => simp [intOf]; omega
    · obtain rfl : a = b := by omega
      have hd0 : decide ((a : Int) < (a : Int)) = false := by simp
      have hd1 : ¬ ((a : Int) < (a : Int)) := by omega
      clear hlt hab
      have HLOW := Lib.hid (lowN_of (by have := HN.out; omega) hlo hhi)
      clear hlo hhi
      by_cases hlt2 : a < n
      · obtain ⟨y, hy⟩ : ∃ x, os[a]? = some x := ⟨_, List.getElem?_eq_getElem (by have := HN.out; omega)⟩
        obtain ⟨x, hx⟩ : ∃ x, rms[a]? = some x := ⟨_, List.getElem?_eq_getElem (by have := HN.out; omega)⟩
        have hyn := HM.out a y x hy hx
        obtain ⟨b1, o1, rfl, hb1, hc1⟩ := rd_at' (HV.out.below hbr (Nat.le_refl _)) hx
        have f0 := hc1 0 _ rfl
        have f1 := hc1 1 _ rfl
        have f2 := hc1 2 _ rfl
        have f3 := hc1 3 _ rfl
        have f4 := hc1 4 _ rfl
        have f5 := hc1 5 _ rfl
        rw [Nat.add_zero] at f0
        have HIS : Hid (isAt os id = decide (x.name = id)) := by unfold Hid isAt; rw [HLOW.out, hy]; show decide (y.1 = id) = _; rw [hyn]
        have HBR := Lib.hid hbr
        have ha0 : (0 : Int) ≤ (a : Int) := Int.natCast_nonneg _
        have ha1 : (a : Int) < (n : Int) := by omega
        have hd : decide ((a : Int) < (n : Int)) = true := by simpa using ha1
        have HEQ : Hid ((cmpN x.name id == 0) = decide (x.name = id)) := by
          unfold Hid
          rw [Bool.eq_iff_iff]
          simp only [beq_iff_eq, decide_eq_true_eq]
          exact ⟨cmpN_eq, fun h => by rw [h]; exact cmpN_self _⟩
        clear hx hc1 hbr hy hyn
        go_wp2_with (go_at_call 96; refine (place1_any x id _).mono ?_; rintro e w1 ⟨rfl, hb1'⟩)
        go_ret2
        refine ⟨?_, HBR.out.trans (hb1'.mono HBR.out.size)⟩
        rw [HIS.out, ← HEQ.out, HLOW.out]
        rfl
      · obtain rfl : a = n := by omega
        have HIS : Hid (isAt os id = false) := by unfold Hid isAt; rw [HLOW.out, List.getElem?_eq_none (by have := HN.out; omega)]
        go_wp2_with fail
        go_ret2
        refine ⟨?_, hbr⟩
        rw [HIS.out, HLOW.out]
        rfl

set_option maxRecDepth 100000 in
set_option maxHeartbeats 2000000 in
theorem placeO_any (b : BoxD) (r : RB) (id : ByteArray) (w : World) (hb : BoxOf w w.heap.size b r) (hr : Rising b.objs) (ob : b.Ok) :
    Calls Try.prog 59 #[r.val, .string id] w fun e w' => e = .returned (.tuple #[.int .i64 (lowN b.objs id : Nat), .bool (isAt b.objs id)]) ∧ Below w.heap.size w w' := by
  have ho := hb.objs
  obtain ⟨po, no, co, pt, nt, ct, sq, fl, kp⟩ := r
  dsimp only [RB.val] at *
  have hB : Below w.heap.size w (w.alloc (.cells #[.slice po no co, .slice pt nt ct, .int .i64 sq, .int .i64 fl, .int .i64 kp] 35)) := (Below.refl _ _).alloc (Nat.le_refl _) _
  have HC := Lib.hid (binarySearch_any _ po no co b.objs id (ho.under hB hB.size) hr ob.objs)
  have HB := Lib.hid hB
  clear hb hr ob ho hB
  go_enter Try.func59, Try.ntmps59
  go_wp2_with (go_at_call 95; refine HC.out.mono ?_; rintro e w1 ⟨rfl, hb1⟩)
  go_ret2
  exact ⟨rfl, HB.out.trans (hb1.mono HB.out.size)⟩
end Go.Proofs.Ythgkgjcnmahacaa
end

section
/- Texts in their order. -/
set_option linter.unusedSimpArgs false
set_option linter.unusedVariables false
namespace Go.Proofs.Ythgkgjcnmahacaa
open Go.RowKit Go.OpenShut

theorem less_cmpB : ∀ a b : List UInt8, Op.bytesLess a b = decide (Lib.compareBytes a b < 0)
  | [], [] => by simp [Op.bytesLess, Lib.compareBytes]
  | [], _ :: _ => by simp [Op.bytesLess, Lib.compareBytes]
  | _ :: _, [] => by simp [Op.bytesLess, Lib.compareBytes]
  | x :: a, y :: b => by
    have ih := less_cmpB a b
    unfold Op.bytesLess Lib.compareBytes
    by_cases h1 : x < y
    · simp [h1]
    · by_cases h2 : y < x
      · have : x ≠ y := fun e => by subst e; exact h1 h2
        simp [h1, h2, this]
      · have : x = y := by
          rw [UInt8.lt_iff_toNat_lt] at h1 h2
          exact UInt8.toNat_inj.1 (by omega)
        subst this
        simp [h1, ih]
theorem less_cmp (a b : ByteArray) : Op.bytesLess a.toList b.toList = decide (cmpN a b < 0) := by
  rw [ByteArray.toList_eq, ByteArray.toList_eq]
  exact less_cmpB _ _
/-- The first k objects rise. -/
def RisingTo (os : List (ByteArray × JV)) (k : Nat) : Prop := ∀ (i : Nat) p q, i + 1 < k → os[i]? = some p → os[i + 1]? = some q → cmpN p.1 q.1 < 0
theorem RisingTo.all {os : List (ByteArray × JV)} (h : RisingTo os os.length) : Rising os := by
  intro i j p q hij hi hj
  induction j generalizing q with
  | zero => omega
  | succ j ih =>
    have hl := (List.getElem?_eq_some_iff.1 hj).1
    by_cases e : i = j
    · subst e
      exact h i p q hl hi hj
    · obtain ⟨m, hm⟩ : ∃ m, os[j]? = some m := ⟨_, List.getElem?_eq_getElem (by omega)⟩
      exact cmpN_lt_trans (ih m (by omega) hm) (by have := h j m q hl hm hj; have := cmpN_neg m.1 q.1; omega)
theorem Rising.no {os : List (ByteArray × JV)} {i : Nat} {p q : ByteArray × JV} (hp : os[i]? = some p) (hq : os[i + 1]? = some q) (h : ¬ cmpN p.1 q.1 < 0) : ¬ Rising os := fun hr => h (hr i (i + 1) p q (by omega) hp hq)
end Go.Proofs.Ythgkgjcnmahacaa
end
