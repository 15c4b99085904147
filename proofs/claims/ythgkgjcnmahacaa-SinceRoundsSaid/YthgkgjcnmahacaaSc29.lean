import Derived.Shelf.Sort.Plain
import Derived.Shelf.Slices.In.SortNone
import Derived.Test.YthgkgjcnmahacaaProg
import Derived.Sort.OwnSorted
import Derived.Test.YthgkgjcnmahacaaSc15
import Derived.Test.YthgkgjcnmahacaaSc21
import Derived.Test.YthgkgjcnmahacaaSc08
import Derived.Test.YthgkgjcnmahacaaSc02
import Derived.Test.YthgkgjcnmahacaaSc10
import Derived.Deep.RegionHeld3
import Derived.Deep.RegionLaw
import Derived.Sort.Walk0
import Derived.Test.YthgkgjcnmahacaaSc28
import Derived.Test.YthgkgjcnmahacaaSc23
section
/- slices.Sort at texts, by the library's contract (the record of numbers was written by the kit's lay-shelf.mjs and lay-plain.mjs for this seat). -/
set_option linter.unusedSimpArgs false
set_option linter.unusedVariables false
namespace Go.Proofs.Ythgkgjcnmahacaa
open Go Go.Shelf
def lays190_ren : Go.Shelf.Ren := ⟨fun | 190 => 84 | 125 => 109 | 258 => 108 | 128 => 131 | 129 => 132 | 302 => 122 | 303 => 123 | 304 => 124 | 305 => 125 | 306 => 126 | 307 => 127 | 308 => 128 | 309 => 129 | 310 => 130 | 333 => 139 | 329 => 140 | 330 => 141 | 334 => 142 | 335 => 143 | 336 => 144 | 344 => 149 | n => n, fun | 31 => 43 | 9 => 9 | 3 => 3 | 46 => 161 | 0 => 0 | 51 => 182 | 53 => 184 | 4 => 4 | 183 => 175 | 182 => 174 | 131 => 100 | 5 => 5 | 218 => 192 | 222 => 196 | 228 => 202 | 229 => 203 | n => n, fun | n => n⟩
theorem lays190 : Go.Proofs.Lays.n190 Try.prog lays190_ren := {
  mixed := by kernel_rfl
  f125 := Try.func109.trans (congrArg some (by kernel_rfl))
  f128 := Try.func131.trans (congrArg some (by kernel_rfl))
  f129 := Try.func132.trans (congrArg some (by kernel_rfl))
  f190 := Try.func84.trans (congrArg some (by kernel_rfl))
  f258 := Try.func108.trans (congrArg some (by kernel_rfl))
  f302 := Try.func122.trans (congrArg some (by kernel_rfl))
  f303 := Try.func123.trans (congrArg some (by kernel_rfl))
  f304 := Try.func124.trans (congrArg some (by kernel_rfl))
  f305 := Try.func125.trans (congrArg some (by kernel_rfl))
  f306 := Try.func126.trans (congrArg some (by kernel_rfl))
  f307 := Try.func127.trans (congrArg some (by kernel_rfl))
  f308 := Try.func128.trans (congrArg some (by kernel_rfl))
  f309 := Try.func129.trans (congrArg some (by kernel_rfl))
  f310 := Try.func130.trans (congrArg some (by kernel_rfl))
  f329 := Try.func140.trans (congrArg some (by kernel_rfl))
  f330 := Try.func141.trans (congrArg some (by kernel_rfl))
  f333 := Try.func139.trans (congrArg some (by kernel_rfl))
  f334 := Try.func142.trans (congrArg some (by kernel_rfl))
  f335 := Try.func143.trans (congrArg some (by kernel_rfl))
  f336 := Try.func144.trans (congrArg some (by kernel_rfl))
  f344 := Try.func149.trans (congrArg some (by kernel_rfl))
  t0 := Try.underlying0
  a0 := Try.isAgg0
  z0 := Try.sizeOf0
  v0 := Try.zeroValue0
  t3 := Try.underlying3
  a3 := Try.isAgg3
  z3 := Try.sizeOf3
  v3 := Try.zeroValue3
  t4 := Try.underlying4
  a4 := Try.isAgg4
  z4 := Try.sizeOf4
  v4 := Try.zeroValue4
  t5 := Try.underlying5
  a5 := Try.isAgg5
  z5 := Try.sizeOf5
  v5 := Try.zeroValue5
  t9 := Try.underlying9
  a9 := Try.isAgg9
  z9 := Try.sizeOf9
  v9 := Try.zeroValue9
  t31 := Try.underlying43
  a31 := Try.isAgg43
  z31 := Try.sizeOf43
  v31 := Try.zeroValue43
  t46 := Try.underlying161
  a46 := Try.isAgg161
  z46 := Try.sizeOf161
  v46 := Try.zeroValue161
  t51 := Try.underlying182
  a51 := Try.isAgg182
  z51 := Try.sizeOf182
  v51 := Try.zeroValue182
  t53 := Try.underlying184
  a53 := Try.isAgg184
  z53 := Try.sizeOf184
  v53 := Try.zeroValue184
  t131 := Try.underlying100
  a131 := Try.isAgg100
  z131 := Try.sizeOf100
  v131 := Try.zeroValue100
  t182 := Try.underlying174
  a182 := Try.isAgg174
  z182 := Try.sizeOf174
  v182 := Try.zeroValue174
  t183 := Try.underlying175
  a183 := Try.isAgg175
  z183 := Try.sizeOf175
  v183 := Try.zeroValue175
  t218 := Try.underlying192
  a218 := Try.isAgg192
  z218 := Try.sizeOf192
  v218 := Try.zeroValue192
  t222 := Try.underlying196
  a222 := Try.isAgg196
  z222 := Try.sizeOf196
  v222 := Try.zeroValue196
  t228 := Try.underlying202
  a228 := Try.isAgg202
  z228 := Try.sizeOf202
  v228 := Try.zeroValue202
  t229 := Try.underlying203
  a229 := Try.isAgg203
  z229 := Try.sizeOf203
  v229 := Try.zeroValue203 }
open Go.Sort Go.RowKit in
theorem slices_Sort_string (blk off cap : Nat) (ss : List (List UInt8)) (w : World) (hH : Holds encStr w blk off ss.toArray) (hblk : blk < w.heap.size) (hsz : ss.length < 4611686018427387904) :
    Calls Try.prog 84 #[.slice (some ⟨blk, off, none⟩) ss.length cap] w fun e w' =>
      e = .returned (.tuple #[]) ∧ ∃ n os, w' = grow (putRow encStr (Sort.ahead w n) blk off (ss.mergeSort fun x y => decide (x ≤ y)).toArray) os := Any.slices_Sort_string lays190 blk off cap ss w hH hblk hsz
open Go.RowKit Go.Sort in
theorem slices_Sort_string_none (p : Option Addr) (cap : Nat) (w : World) :
    Calls Try.prog 84 #[.slice p 0 cap] w fun e w' => e = .returned (.tuple #[]) ∧ w' = w := Any.slices_Sort_string_none lays190 p cap w
end Go.Proofs.Ythgkgjcnmahacaa
end

section
/- slices.Sort at texts of the call's own: the same slice holds them sorted. -/
set_option linter.unusedSimpArgs false
set_option linter.unusedVariables false
namespace Go.Proofs.Ythgkgjcnmahacaa
open Go Go.RowKit Go.Sort

def ofB (l : List UInt8) : ByteArray := ⟨l.toArray⟩
/-- Texts, sorted. -/
def sortB (ss : List ByteArray) : List ByteArray := ((ss.map (·.data.toList)).mergeSort fun x y => decide (x ≤ y)).map ofB
theorem ofB_to (b : ByteArray) : ofB b.data.toList = b := by cases b; simp [ofB]
theorem sortB_len (ss : List ByteArray) : (sortB ss).length = ss.length := by simp [sortB]
theorem sortB_perm (ss : List ByteArray) : (sortB ss).Perm ss := by
  have h := (List.mergeSort_perm (ss.map (·.data.toList)) fun x y => decide (x ≤ y)).map ofB
  rw [List.map_map] at h
  have e : (ofB ∘ fun b : ByteArray => b.data.toList) = id := by funext b; exact ofB_to b
  rw [e, List.map_id] at h
  exact h
theorem cells_strs : ∀ ss : List (List UInt8), cellsOf encS (ss.map ofB) = ss.map encStr
  | [] => rfl
  | s :: ss => by
    have := cells_strs ss
    unfold cellsOf at this ⊢
    rw [List.map_cons, List.flatMap_cons, this]
    rfl
set_option maxRecDepth 100000 in
theorem sortS_any (w : World) (base : Nat) (p : Option Addr) (n c : Nat) (ss : List ByteArray) (ho : Own w base 9 encS 1 (.slice p n c) ss) (hl : ss.length < 4611686018427387904) :
    Calls Try.prog 84 #[.slice p n c] w fun e w' => e = .returned (.tuple #[]) ∧ Own w' base 9 encS 1 (.slice p n c) (sortB ss) ∧ w.grownBy w' (Value.slice p n c).ownBlock := by
  have hrow : w.ownsRow base 9 1 (.slice p n c) ss.length (cellsOf encS ss) := ho
  have e0 : (ss.map (·.data.toList)).map ofB = ss := by
    rw [List.map_map]
    have e : (ofB ∘ fun b : ByteArray => b.data.toList) = id := by funext b; exact ofB_to b
    rw [e, List.map_id]
  have e1 : cellsOf encS ss = (ss.map (·.data.toList)).map encStr := by rw [← cells_strs, e0]
  rcases hrow.2 with ⟨hv, hn⟩ | ⟨g, cap, cur, hv, hbase, hb, h1, h2, h3, h4⟩
  · simp only [Value.slice.injEq] at hv
    obtain ⟨rfl, rfl, rfl⟩ := hv
    have : ss = [] := List.eq_nil_of_length_eq_zero hn
    subst this
    refine (slices_Sort_string_none none 0 w).mono fun e w' ⟨he, hw⟩ => ?_
    subst hw
    have e : sortB [] = [] := List.eq_nil_of_length_eq_zero (sortB_len [])
    rw [e]
    exact ⟨he, Own.nil _ _ _, World.grownBy.refl _ _⟩
  · simp only [Value.slice.injEq] at hv
    obtain ⟨rfl, rfl, rfl⟩ := hv
    have hc := slices_Sort_string g 0 c (ss.map (·.data.toList)) w (holds_of_block hb (by rw [List.length_map, ← e1]; simpa using h4)) (Array.getElem?_eq_some_iff.1 hb).1 (by simpa using hl)
    rw [List.length_map] at hc
    refine hc.mono fun e w' ⟨he, k, os, hw⟩ => ?_
    subst hw
    refine ⟨he, ?_, grownBy_sorted _⟩
    have := ownsRow_sorted (base := base) (n := k) (os := os) (ss := ss.map (·.data.toList)) (ts := (ss.map (·.data.toList)).mergeSort fun x y => decide (x ≤ y)) (by simp) hbase hb (by simpa using h1) h2 h3
    rw [List.length_map, ← cells_strs] at this
    unfold Own
    rw [sortB_len]
    exact this
end Go.Proofs.Ythgkgjcnmahacaa
end

section
/- since.what, and the library's DeleteFunc at pasts, walked. -/
set_option linter.unusedSimpArgs false
set_option linter.unusedVariables false
namespace Go.Proofs.Ythgkgjcnmahacaa
open Go.RowKit Go.OpenShut

/-- What a past is; 0: nothing. -/
def whatP (p : Pa) : Int := if p.was then (if p.isb then 2 else 3) else (if p.isb then 1 else 0)
set_option maxRecDepth 100000 in
theorem what_any (p : Pa) (w : World) : Calls Try.prog 83 #[.agg #[.string p.id, .bool p.was, .bool p.isb, .int .i64 p.last]] w fun e w' => e = .returned (.int .i64 (whatP p)) ∧ Below w.heap.size w w' := by
  obtain ⟨i, x, y, l⟩ := p
  have hB : Below w.heap.size w (w.alloc (.cells #[.string i, .bool x, .bool y, .int .i64 l] 99)) := (Below.refl _ _).alloc (Nat.le_refl _) _
  dsimp only
  cases x <;> cases y
  all_goals
    go_enter Try.func83, Try.ntmps83
    go_wp2_with fail
    go_ret
    exact ⟨rfl, hB⟩
def noneP (p : Pa) : Bool := decide (whatP p = 0)
set_option maxRecDepth 100000 in
theorem isNone_any (p : Pa) (w : World) : Calls Try.prog 82 #[.agg #[.string p.id, .bool p.was, .bool p.isb, .int .i64 p.last]] w fun e w' => e = .returned (.bool (noneP p)) ∧ Below w.heap.size w w' := by
  have hB : Below w.heap.size w (w.alloc (.cells #[.string p.id, .bool p.was, .bool p.isb, .int .i64 p.last] 99)) := (Below.refl _ _).alloc (Nat.le_refl _) _
  have HC := fun W => what_any p W
  have hw : noneP p = (whatP p == 0) := by unfold noneP; rw [Bool.eq_iff_iff]; simp
  obtain ⟨i, x, y, l⟩ := p
  dsimp only at hB HC ⊢
  obtain ⟨z, hz⟩ : ∃ z, whatP ⟨i, x, y, l⟩ = z := ⟨_, rfl⟩
  rw [hw, hz]
  simp only [hz] at HC
  have HC := Lib.hid HC
  clear hw hz
  go_enter Try.func82, Try.ntmps82
  go_wp2_with (go_at_call 83; refine (HC.out _).mono ?_; rintro e w1 ⟨rfl, hb1⟩)
  go_ret
  exact ⟨rfl, hB.trans (hb1.mono hB.size)⟩
end Go.Proofs.Ythgkgjcnmahacaa
end

section
/- The library's DeleteFunc at pasts, walked (turned from XWout's text). -/
set_option linter.unusedSimpArgs false
set_option linter.unusedVariables false
namespace Go.Proofs.Ythgkgjcnmahacaa
open Go.RowKit Go.OpenShut

abbrev isNoneV : Value := .func (.func 82) #[] #[]
theorem infoPa : (Try.prog.info? 99).map (fun i => (i.zero, i.size, i.bytes)) = some (some (.agg #[.string ByteArray.empty, .bool false, .bool false, .int .i64 0]), 4, 32) := by kernel_rfl
theorem slPa : SlT Try.prog 96 99 4 32 := SlT.mk Try.underlying96 infoPa rfl
theorem onePa : ∀ i z, Try.prog.info? 99 = some i → i.zero = some z → ∀ u ∈ z.cells.toList, u.oneCell' = true := by
  intro i z hi hz
  have h := infoPa
  rw [hi] at h
  simp only [Option.map_some, Option.some.injEq, Prod.mk.injEq] at h
  rw [hz] at h
  simp only [Option.some.injEq] at h
  rw [h.1]
  intro u hu
  simp [Value.cells] at hu
  rcases hu with rfl | rfl | rfl | rfl <;> rfl
section
variable {W : World} {g : Nat} {x : Pa} (h : PaAt W g x)
include h
theorem PaAt.cell0 : W.cell? ⟨g, 0, none⟩ = some (.string x.id) := by unfold PaAt at h; rw [cell_of_row W g 0 _ _ _ h]; rfl
theorem PaAt.cell1 : W.cell? ⟨g, 1, none⟩ = some (.bool x.was) := by unfold PaAt at h; rw [cell_of_row W g 1 _ _ _ h]; rfl
theorem PaAt.cell2 : W.cell? ⟨g, 2, none⟩ = some (.bool x.isb) := by unfold PaAt at h; rw [cell_of_row W g 2 _ _ _ h]; rfl
theorem PaAt.cell3 : W.cell? ⟨g, 3, none⟩ = some (.int .i64 x.last) := by unfold PaAt at h; rw [cell_of_row W g 3 _ _ _ h]; rfl
end
set_option maxRecDepth 100000 in
set_option maxHeartbeats 1000000 in
theorem indexP_any (w : World) (p : Option Addr) (n c : Nat) (rms : List Pa) (hv : Rd w w.heap.size encP 4 (.slice p n c) rms) (hlen : rms.length ≤ 4398046511104) :
    Calls Try.prog 107 #[.slice p n c, isNoneV] w fun e w' => e = .returned (.int .i64 (placeI (rms.findIdx? (noneP)))) ∧ Below w.heap.size w w' := by
  have hn := rd_nlen hv
  subst hn
  have HV := Lib.hid hv
  clear hv
  go_enter Try.func107, Try.ntmps107
  go_wp2_with fail
  go_loopw [8] (fun i wr => ∃ k : Nat, k ≤ rms.length ∧ i = .int .i64 k ∧ Hid (∀ (j : Nat) y, j < k → rms[j]? = some y → noneP y = false) ∧ Below w.heap.size w wr) (fun i _ => rms.length - (intOf i).toNat)
  case atStart => exact ⟨0, Nat.zero_le _, rfl, fun j y h => by omega, Below.refl _ _⟩
  case round =>
    obtain ⟨k, hk, rfl, hno, hbr⟩ := hrel
    by_cases hlt : k < rms.length
    · obtain ⟨x, hx⟩ : ∃ x, rms[k]? = some x := ⟨_, List.getElem?_eq_getElem hlt⟩
      obtain ⟨b1, o1, rfl, hb1, hc1⟩ := rd_at' (HV.out.below hbr (Nat.le_refl _)) hx
      have f0 := hc1 0 _ rfl
      have f1 := hc1 1 _ rfl
      have f2 := hc1 2 _ rfl
      have f3 := hc1 3 _ rfl
      rw [Nat.add_zero] at f0
      have HX := Lib.hid hx
      have hz := hbr.size
      have HBR := Lib.hid hbr
      cases hnb : noneP x with
      | true =>
        have HF := Lib.hid (find_at HX.out hnb hno.out)
        have HNB : Hid (noneP x = true) := hnb
        clear hx hc1 hbr hnb hno
        go_wp2_with (go_at_call 82; refine (isNone_any x _).mono ?_; rintro e w1 ⟨rfl, hb1'⟩; rw [HNB.out])
        go_ret
        exact ⟨ret_int (by rw [HF.out]; rfl), HBR.out.trans (hb1'.mono HBR.out.size)⟩
      | false =>
        have HNB : Hid (noneP x = false) := hnb
        have HNX : Hid (∀ (j : Nat) y, j < k + 1 → rms[j]? = some y → noneP y = false) := by
          intro j y hj hy
          by_cases e : j = k
          · subst e
            rw [hx] at hy
            cases hy
            exact hnb
          · exact hno.out j y (by omega) hy
        clear hx hc1 hbr hnb hno
        go_wp2_with (go_at_call 82; refine (isNone_any x _).mono ?_; rintro e w1 ⟨rfl, hb1'⟩; rw [HNB.out])
        go_roundw
        case rel => exact ⟨k + 1, by omega, by go_num, HNX, HBR.out.trans (hb1'.mono HBR.out.size)⟩
        case measure => simp [intOf]; omega
    · obtain rfl : k = rms.length := by omega
      have HF := Lib.hid (find_not (p := noneP) (l := rms) (fun j y hy => hno.out j y (List.getElem?_eq_some_iff.1 hy).1 hy))
      go_wp2_with fail
      go_ret
      exact ⟨ret_int (by rw [HF.out]; rfl), hbr⟩

structure DelRelP (rms : List Pa) (a b : Nat) (cur : List Pa) : Prop where
  lt : a < b
  len : cur.length = rms.length
  head : cur.take a = (rms.take b).filter (fun x => !noneP x)
  tail : cur.drop b = rms.drop b
theorem DelRelP.start {rms : List Pa} {i : Nat} (h : rms.findIdx? (noneP) = some i) : DelRelP rms i (i + 1) rms := by
  rw [List.findIdx?_eq_some_iff_getElem] at h
  obtain ⟨h1, h2, h3⟩ := h
  refine ⟨by omega, rfl, ?_, rfl⟩
  rw [List.take_add_one, List.getElem?_eq_getElem h1, List.filter_append]
  have e1 : (rms.take i).filter (fun x => !noneP x) = rms.take i := by
    rw [List.filter_eq_self]
    intro x hx
    obtain ⟨j, hj⟩ := List.getElem?_of_mem hx
    rw [List.getElem?_take] at hj
    split at hj
    · have := h3 j (by assumption)
      rw [List.getElem?_eq_getElem (by omega)] at hj
      cases hj
      simpa using this
    · cases hj
  rw [e1]
  simp [h2]
theorem DelRelP.at {rms cur : List Pa} {a b : Nat} (h : DelRelP rms a b cur) {x : Pa} (hx : rms[b]? = some x) : cur[b]? = some x := by
  have h1 : (cur.drop b)[0]? = (rms.drop b)[0]? := by rw [h.tail]
  simpa [List.getElem?_drop, hx] using h1
theorem DelRelP.skip {rms cur : List Pa} {a b : Nat} (h : DelRelP rms a b cur) {x : Pa} (hx : rms[b]? = some x) (hn : noneP x = true) : DelRelP rms a (b + 1) cur := by
  refine ⟨by have := h.lt; omega, h.len, ?_, ?_⟩
  · rw [List.take_add_one, hx, List.filter_append, ← h.head]
    simp [hn]
  · rw [← List.drop_drop (i := 1) (j := b), ← List.drop_drop (i := 1) (j := b), h.tail]
theorem DelRelP.keep {rms cur : List Pa} {a b : Nat} (h : DelRelP rms a b cur) {x : Pa} (hx : rms[b]? = some x) (hn : noneP x = false) : DelRelP rms (a + 1) (b + 1) (cur.set a x) := by
  have hl := h.lt
  have hbl := (List.getElem?_eq_some_iff.1 hx).1
  refine ⟨by omega, by rw [List.length_set, h.len], ?_, ?_⟩
  · rw [List.take_add_one, List.take_set_of_le (Nat.le_refl _), List.getElem?_set_self (by have := h.len; omega), List.take_add_one, hx, List.filter_append, ← h.head]
    simp [hn]
  · rw [List.drop_set_of_lt (by omega), ← List.drop_drop (i := 1) (j := b), ← List.drop_drop (i := 1) (j := b), h.tail]
theorem DelRelP.done {rms cur : List Pa} {a : Nat} (h : DelRelP rms a rms.length cur) : cur.take a = rms.filter (fun x => !noneP x) := by
  have := h.head
  rwa [List.take_length] at this

set_option maxRecDepth 100000 in
set_option maxHeartbeats 2000000 in
theorem deleteP_any (w : World) (base : Nat) (p : Option Addr) (n c : Nat) (rms : List Pa) (hv : Own w base 99 encP 4 (.slice p n c) rms) (hb : base ≤ w.heap.size) (hlen : rms.length ≤ 4398046511104) :
    Calls Try.prog 81 #[.slice p n c, isNoneV] w fun e w' => ∃ m, e = .returned (.slice p m c) ∧ Own w' base 99 encP 4 (.slice p m c) (rms.filter (fun x => !noneP x)) ∧ Below base w w' := by
  have hn := rd_nlen (hv.rd codecP)
  subst hn
  have HI := Lib.hid (indexP_any w p rms.length c rms (hv.rd codecP) hlen)
  have HV := Lib.hid hv
  clear hv
  cases hf : rms.findIdx? (noneP) with
  | none =>
    have HF := Lib.hid hf
    clear hf
    go_enter Try.func81, Try.ntmps81
    go_wp2_with (go_at_call 107; refine HI.out.mono ?_; rintro e w1 ⟨rfl, hb1⟩; rw [HF.out]; (have hn1 : placeI (none : Option Nat) = -1 := rfl); rw [hn1]; go_frame)
    go_ret
    refine ⟨rms.length, rfl, ?_, hb1.mono hb⟩
    have e1 : rms.filter (fun x => !noneP x) = rms := by
      rw [List.filter_eq_self]
      intro x hx
      have := List.findIdx?_eq_none_iff.1 HF.out x hx
      simpa using this
    rw [e1]
    exact HV.out.below hb1 (Nat.le_refl _)
  | some i =>
    have HF := Lib.hid hf
    have hst := DelRelP.start hf
    have hi := hst.lt
    have hil : i < rms.length := by rw [List.findIdx?_eq_some_iff_getElem] at hf; exact hf.1
    have HST := Lib.hid hst
    have hne : ((i : Int) == -1) = false := by rw [beq_eq_false_iff_ne]; omega
    clear hf hst
    go_enter Try.func81, Try.ntmps81
    go_wp2_with (go_at_call 107; refine HI.out.mono ?_; rintro e w1 ⟨rfl, hb1⟩; rw [HF.out]; (have hn1 : placeI (some i) = (i : Int) := rfl); rw [hn1]; clear hn1; go_frame)
    have hz1 : w.heap.size ≤ w1.heap.size := hb1.size
    have HB1 : Hid (Below base w w1) := hb1.mono hb
    have hO1 : Hid (Own w1 base 99 encP 4 (.slice p rms.length c) rms) := HV.out.below hb1 (Nat.le_refl _)
    clear hb1
    go_loopw [5, 6] (fun x y wr => ∃ (a b : Nat) (cur : List Pa), x = .int .i64 a ∧ y = .int .i64 b ∧ b ≤ rms.length ∧ Hid (DelRelP rms a b cur) ∧ Hid (Own wr base 99 encP 4 (.slice p rms.length c) cur) ∧ Below base w wr) (fun _ y _ => rms.length - (intOf y).toNat)
    case atStart => exact ⟨i, i + 1, rms, rfl, by go_num, by omega, HST, hO1, HB1.out⟩
    case round =>
      obtain ⟨a, b, cur, rfl, rfl, hbn, HD, HO, hbr⟩ := hrel
      have hab : a < b := HD.out.lt
      have hzr := hbr.size
      by_cases hlt : b < rms.length
      · obtain ⟨x, hx⟩ : ∃ x, rms[b]? = some x := ⟨_, List.getElem?_eq_getElem hlt⟩
        have hcx := HD.out.at hx
        obtain ⟨xa, hxa⟩ : ∃ xa, cur[a]? = some xa := ⟨_, List.getElem?_eq_getElem (by rw [HD.out.len]; omega)⟩
        obtain ⟨gg, hpg, hnn, hga, hgb', hcell, hfr⟩ := Own.at codecP HO.out hcx
        subst hpg
        have f0 := hcell 0 _ rfl
        have f1 := hcell 1 _ rfl
        have f2 := hcell 2 _ rfl
        have f3 := hcell 3 _ rfl
        rw [Nat.add_zero] at f0
        have HX := Lib.hid hx
        have HXA := Lib.hid hxa
        have HBR := Lib.hid hbr
        have hb0 : (0 : Int) ≤ (b : Int) := Int.natCast_nonneg _
        have hb1 : (b : Int) < (rms.length : Int) := by omega
        have ha0 : (0 : Int) ≤ (a : Int) := Int.natCast_nonneg _
        have ha1 : (a : Int) < (rms.length : Int) := by omega
        have hM0 : PaAt (wr.alloc (.cells #[.string x.id, .bool x.was, .bool x.isb, .int .i64 x.last] 99)) wr.heap.size x := heap_alloc_at rfl
        have HM0 := Lib.hid hM0
        have hA := HBR.out.alloc (Nat.le_trans hb hzr) (.cells #[.string x.id, .bool x.was, .bool x.isb, .int .i64 x.last] 99)
        have HA := Lib.hid hA
        clear hx hxa hcx hcell hfr hnn hbr hA hM0
        cases hnb : noneP x with
        | true =>
          have HNB : Hid (noneP x = true) := hnb
          have HN := Lib.hid (HD.out.skip HX.out hnb)
          clear hnb
          go_wp2_with (go_at_call 82; refine (isNone_any x _).mono ?_; rintro e w2 ⟨rfl, hb2⟩; rw [HNB.out])
          go_roundw
          case rel => exact ⟨a, b + 1, cur, rfl, by go_num, by omega, HN, (HO.out.alloc _).below hb2 (Nat.le_refl _), HA.out.trans (hb2.mono (Nat.le_trans hb HA.out.size))⟩
          case measure => simp [intOf]; omega
        | false =>
          have HNB : Hid (noneP x = false) := hnb
          have HN := Lib.hid (HD.out.keep HX.out hnb)
          clear hnb
          go_upto_region 9 with (go_at_call 82; refine (isNone_any x _).mono ?_; rintro e w2 ⟨rfl, hb2⟩; rw [HNB.out])
          have hM2 := (show PaAt w2 wr.heap.size x from (hb2.block _ (by simp)).trans HM0.out)
          have v0 := hM2.cell0
          have v1 := hM2.cell1
          have v2 := hM2.cell2
          have v3 := hM2.cell3
          have hO2 := (HO.out.alloc (.cells #[.string x.id, .bool x.was, .bool x.isb, .int .i64 x.last] 99)).below hb2 (Nat.le_refl _)
          obtain ⟨g2, hpg2, hnn2, hga2, hgb2, hcell2, hfr2⟩ := Own.at codecP hO2 HXA.out
          simp only [Option.some.injEq, Addr.mk.injEq, and_true] at hpg2
          subst hpg2
          have t0 := hcell2 0 _ rfl
          have t1 := hcell2 1 _ rfl
          have t2 := hcell2 2 _ rfl
          have t3 := hcell2 3 _ rfl
          rw [Nat.add_zero] at t0
          have s0 := hfr2 (a * 4)
          have s1 := hfr2 (a * 4 + 1)
          have s2 := hfr2 (a * 4 + 2)
          have s3 := hfr2 (a * 4 + 3)
          have HST2 := Lib.hid (Own.stored4 hO2 (by rw [HD.out.len]) a (by rw [HD.out.len]; omega) x)
          have HB2 : Hid (Below base w w2) := HA.out.trans (hb2.mono (Nat.le_trans hb HA.out.size))
          have hz2 : w.heap.size ≤ w2.heap.size := HB2.out.size
          clear hcell2 hfr2 hnn2 hb2 hM2 hO2 f0 f1 f2 f3
          go_wp2_with fail
          go_roundw
          case rel => exact ⟨a + 1, b + 1, _, by go_num, by go_num, by omega, HN, HST2.out.1, HB2.out.grown HST2.out.2 (by omega) (fun j e => by cases e; exact hga)⟩
          case measure => simp [intOf]; omega
      · obtain rfl : b = rms.length := by omega
        have hal : a ≤ rms.length := by omega
        have hsl := fun W => run_slice_low (P := Try.prog) slPa p rms.length c a hal W
        have hcap : rms.length ≤ c := by
          obtain ⟨_, _, e, h1, _⟩ := HO.out.rd codecP
          simp only [Value.slice.injEq] at e
          have := HD.out.len
          omega
        have hsh := fun W => run_slice_high (P := Try.prog) slPa p rms.length c a (by omega) W
        have HBR := Lib.hid hbr
        have HDD := Lib.hid HD.out.done
        clear hbr HD
        obtain ⟨w2, hrun, ho2, hg2⟩ := run_clear_own (P := Try.prog) slPa onePa codecP wr 0 HO.out hal (v := .slice (p.map (fun x => x.add (a * 4))) (rms.length - a) (c - a)) (by unfold sliced; rw [if_neg (by omega)])
        have HO2 := Lib.hid ho2
        have HG2 := Lib.hid hg2
        clear ho2 hg2
        go_wp2_with fail
        go_ret
        exact ⟨a, rfl, by rw [← HDD.out]; exact HO2.out, HBR.out.grown HG2.out (by omega) (fun j e => (HO.out.lt j e).1)⟩
end Go.Proofs.Ythgkgjcnmahacaa
end

section
/- What changed, as data, and how it lies in memory. -/
set_option linter.unusedSimpArgs false
set_option linter.unusedVariables false
namespace Go.Proofs.Ythgkgjcnmahacaa
open Go.RowKit Go.OpenShut

/-- A change, as data. -/
structure ChD where
  made : List ByteArray
  chgd : List ByteArray
  gone : List ByteArray
  toN : Int
  more : Bool
/-- A change's own cells. -/
structure RC where
  pa : Option Addr
  na : Nat
  ca : Nat
  pb : Option Addr
  nb : Nat
  cb : Nat
  pc : Option Addr
  nc : Nat
  cc : Nat
  toN : Int
  more : Bool
abbrev RC.val (r : RC) : Value := .agg #[.slice r.pa r.na r.ca, .slice r.pb r.nb r.cb, .slice r.pc r.nc r.cc, .int .i64 r.toN, .bool r.more]
def encC (r : RC) : List Value := [.slice r.pa r.na r.ca, .slice r.pb r.nb r.cb, .slice r.pc r.nc r.cc, .int .i64 r.toN, .bool r.more]
abbrev RC.obj (r : RC) : Obj := .cells #[.slice r.pa r.na r.ca, .slice r.pb r.nb r.cb, .slice r.pc r.nc r.cc, .int .i64 r.toN, .bool r.more] 67
def RC.zero : RC := ⟨none, 0, 0, none, 0, 0, none, 0, 0, 0, false⟩
def ChD.zero : ChD := ⟨[], [], [], 0, false⟩
/-- The cells read as a change. -/
structure ChgOf (w : World) (B : Nat) (d : ChD) (r : RC) : Prop where
  made : Rd w B encS 1 (.slice r.pa r.na r.ca) d.made
  chgd : Rd w B encS 1 (.slice r.pb r.nb r.cb) d.chgd
  gone : Rd w B encS 1 (.slice r.pc r.nc r.cc) d.gone
  toN : d.toN = r.toN
  more : d.more = r.more
theorem ChgOf.under {w w' : World} {B B' : Nat} {d : ChD} {r : RC} (h : ChgOf w B d r) (hb : Below B w w') (hB : B ≤ B') : ChgOf w' B' d r :=
  ⟨h.made.below hb hB, h.chgd.below hb hB, h.gone.below hb hB, h.toN, h.more⟩
/-- A change whose lists are the call's own. -/
structure NewChg (w : World) (base : Nat) (d : ChD) (r : RC) : Prop where
  made : Own w base 9 encS 1 (.slice r.pa r.na r.ca) d.made
  chgd : Own w base 9 encS 1 (.slice r.pb r.nb r.cb) d.chgd
  gone : Own w base 9 encS 1 (.slice r.pc r.nc r.cc) d.gone
  toN : d.toN = r.toN
  more : d.more = r.more
theorem NewChg.chg {w : World} {base : Nat} {d : ChD} {r : RC} (h : NewChg w base d r) : ChgOf w w.heap.size d r := ⟨h.made.rd codecS, h.chgd.rd codecS, h.gone.rd codecS, h.toN, h.more⟩
theorem NewChg.zero (w : World) (base : Nat) : NewChg w base ChD.zero RC.zero := ⟨Own.nil _ _ _, Own.nil _ _ _, Own.nil _ _ _, rfl, rfl⟩
theorem NewChg.below {w w' : World} {base : Nat} {d : ChD} {r : RC} (h : NewChg w base d r) (hb : Below w.heap.size w w') : NewChg w' base d r :=
  ⟨h.made.below hb (Nat.le_refl _), h.chgd.below hb (Nat.le_refl _), h.gone.below hb (Nat.le_refl _), h.toN, h.more⟩
/-- A change in a block of its own. -/
def ChAt (W : World) (g : Nat) (r : RC) : Prop := W.heap[g]? = some (.cells #[.slice r.pa r.na r.ca, .slice r.pb r.nb r.cb, .slice r.pc r.nc r.cc, .int .i64 r.toN, .bool r.more] 67 (0, 0))
theorem ChAt.cell {W : World} {g : Nat} {r : RC} (h : ChAt W g r) (j : Nat) {u : Value} (hu : (encC r)[j]? = some u) : W.cell? ⟨g, j, none⟩ = some u := by
  unfold ChAt at h
  rw [cell_of_row W g j _ _ _ h, ← Array.getElem?_toList]
  exact hu
theorem ChAt.frozen {W : World} {g : Nat} {r : RC} (h : ChAt W g r) (j : Nat) : W.frozen? ⟨g, j, none⟩ = false := by
  unfold ChAt at h
  simp [World.frozen?, h]
theorem ChAt.lt {W : World} {g : Nat} {r : RC} (h : ChAt W g r) : g < W.heap.size := (Array.getElem?_eq_some_iff.1 h).1
theorem ChAt.under {W W' : World} {g B : Nat} {r : RC} (h : ChAt W g r) (hb : Below B W W') (hg : g < B) : ChAt W' g r := (hb.block g hg).trans h
/-- Four lists of texts in a block of their own, the first one empty. -/
def ArAt (W : World) (g : Nat) (a b c : Value) : Prop := W.heap[g]? = some (.cells #[.slice none 0 0, a, b, c] 124 (0, 0))
theorem ArAt.cell {W : World} {g : Nat} {a b c : Value} (h : ArAt W g a b c) (j : Nat) {u : Value} (hu : [.slice none 0 0, a, b, c][j]? = some u) : W.cell? ⟨g, j, none⟩ = some u := by
  unfold ArAt at h
  rw [cell_of_row W g j _ _ _ h, ← Array.getElem?_toList]
  exact hu
theorem ArAt.frozen {W : World} {g : Nat} {a b c : Value} (h : ArAt W g a b c) (j : Nat) : W.frozen? ⟨g, j, none⟩ = false := by
  unfold ArAt at h
  simp [World.frozen?, h]
theorem ArAt.lt {W : World} {g : Nat} {a b c : Value} (h : ArAt W g a b c) : g < W.heap.size := (Array.getElem?_eq_some_iff.1 h).1
theorem ArAt.set1 {W : World} {g : Nat} {a b c : Value} (h : ArAt W g a b c) (x : Value) : ArAt (W.setCell ⟨g, 1, none⟩ x) g x b c := by
  unfold ArAt at h ⊢
  simp [World.setCell, Array.getElem?_modify, h]
theorem ArAt.set2 {W : World} {g : Nat} {a b c : Value} (h : ArAt W g a b c) (x : Value) : ArAt (W.setCell ⟨g, 2, none⟩ x) g a x c := by
  unfold ArAt at h ⊢
  simp [World.setCell, Array.getElem?_modify, h]
theorem ArAt.set3 {W : World} {g : Nat} {a b c : Value} (h : ArAt W g a b c) (x : Value) : ArAt (W.setCell ⟨g, 3, none⟩ x) g a b x := by
  unfold ArAt at h ⊢
  simp [World.setCell, Array.getElem?_modify, h]

/-- The ids of what is of a kind. -/
def idsW (k : Int) (l : List Pa) : List ByteArray := (l.filter (fun p => decide (whatP p = k))).map (·.id)
theorem idsW_snoc (k : Int) (l : List Pa) (p : Pa) : idsW k (l ++ [p]) = idsW k l ++ (if whatP p = k then [p.id] else []) := by
  unfold idsW
  rw [List.filter_append, List.map_append]
  by_cases h : whatP p = k <;> simp [h]
theorem idsW_len (k : Int) (l : List Pa) : (idsW k l).length ≤ l.length := by
  unfold idsW
  rw [List.length_map]
  exact List.length_filter_le _ _
/-- What is told of at all. -/
def toldP (ys : List Pa) : List Pa := ys.filter (fun p => !noneP p)
/-- Is more to be told than may be told at once? -/
def moreP (ys : List Pa) (most : Int) : Bool := decide (0 < most) && decide (most < ((toldP ys).length : Int))
def cutP (ys : List Pa) (most : Int) : List Pa := if moreP ys most = true then (toldP ys).take most.toNat else toldP ys
def lastP (l : List Pa) : Int := (l.getLast?.map (·.last)).getD 0
/-- What changed. -/
def sncD (seq : Int) (ys : List Pa) (most : Int) : ChD :=
  ⟨sortB (idsW 1 (cutP ys most)), sortB (idsW 2 (cutP ys most)), sortB (idsW 3 (cutP ys most)), if moreP ys most = true then lastP (cutP ys most) else seq, moreP ys most⟩

/-- Three lists of the call's own, apart. -/
structure Own3 (W : World) (base : Nat) (a b c : Value) (la lb lc : List ByteArray) : Prop where
  oa : Own W base 9 encS 1 a la
  ob : Own W base 9 encS 1 b lb
  oc : Own W base 9 encS 1 c lc
  ab : ∀ k, a.ownBlock = some k → b.ownBlock ≠ some k
  ac : ∀ k, a.ownBlock = some k → c.ownBlock ≠ some k
  bc : ∀ k, b.ownBlock = some k → c.ownBlock ≠ some k
section
variable {W W' : World} {base : Nat} {a b c : Value} {la lb lc : List ByteArray} (h : Own3 W base a b c la lb lc)
include h
theorem Own3.same (hb : ∀ k, base ≤ k → k < W.heap.size → W'.heap[k]? = W.heap[k]?) : Own3 W' base a b c la lb lc :=
  ⟨h.oa.same (fun k e => hb k (h.oa.lt k e).1 (h.oa.lt k e).2), h.ob.same (fun k e => hb k (h.ob.lt k e).1 (h.ob.lt k e).2), h.oc.same (fun k e => hb k (h.oc.lt k e).1 (h.oc.lt k e).2), h.ab, h.ac, h.bc⟩
theorem Own3.rot : Own3 W base b c a lb lc la := ⟨h.ob, h.oc, h.oa, h.bc, fun k e e2 => h.ab k e2 e, fun k e e2 => h.ac k e2 e⟩
theorem Own3.put1 {x : Value} {l : List ByteArray} (hx : Own W' base 9 encS 1 x l) (hg : W.grownBy W' a.ownBlock) (hat : x.ownBlock = a.ownBlock ∨ ∀ k, x.ownBlock = some k → W.heap.size ≤ k) : Own3 W' base x b c l lb lc := by
  refine ⟨hx, h.ob.same (fun k e => hg.block k (h.ob.lt k e).2 (fun e2 => h.ab k e2.symm e)), h.oc.same (fun k e => hg.block k (h.oc.lt k e).2 (fun e2 => h.ac k e2.symm e)), fun k e e2 => ?_, fun k e e2 => ?_, h.bc⟩
  · rcases hat with h1 | h1
    · exact h.ab k (by rw [← h1]; exact e) e2
    · have := h1 k e; have := (h.ob.lt k e2).2; omega
  · rcases hat with h1 | h1
    · exact h.ac k (by rw [← h1]; exact e) e2
    · have := h1 k e; have := (h.oc.lt k e2).2; omega
end
end Go.Proofs.Ythgkgjcnmahacaa
end

section
/- A name put into a list that rises, walked; and what that comes to. -/
set_option linter.unusedSimpArgs false
set_option linter.unusedVariables false
namespace Go.Proofs.Ythgkgjcnmahacaa
open Go.RowKit Go.OpenShut

/-- A name in a list that rises. -/
def putN (l : List ByteArray) (s : ByteArray) : List ByteArray := l.filter (fun x => decide (cmpN x s < 0)) ++ s :: l.filter (fun x => decide (cmpN s x < 0))
theorem less_iff (a b : ByteArray) : cmpN a b < 0 ↔ a.data.toList < b.data.toList := by
  have h1 := less_cmp a b
  rw [bytesLess_eq, ByteArray.toList_eq, ByteArray.toList_eq] at h1
  constructor
  · intro h
    rw [decide_eq_true h] at h1
    exact of_decide_eq_true h1
  · intro h
    rw [decide_eq_true h] at h1
    exact of_decide_eq_true h1.symm
theorem cmpN_trans {a b c : ByteArray} (h1 : cmpN a b < 0) (h2 : cmpN b c < 0) : cmpN a c < 0 := by
  rw [less_iff] at h1 h2 ⊢
  exact List.lt_trans h1 h2
theorem sortB_le (l : List ByteArray) : (sortB l).Pairwise (fun x y => ¬ cmpN y x < 0) := by
  unfold sortB
  have h := List.pairwise_mergeSort (le := fun x y : List UInt8 => decide (x ≤ y)) (fun a b c h1 h2 => by simp at h1 h2 ⊢; exact List.le_trans h1 h2) (fun a b => by simp; exact List.le_total a b) (l.map (·.data.toList))
  rw [List.pairwise_map]
  refine h.imp fun {a b} hab => ?_
  rw [less_iff]
  have h2 : a ≤ b := of_decide_eq_true hab
  exact fun h3 => absurd h3 (List.not_lt.2 h2)
/-- Texts that rise. -/
def StrictN (l : List ByteArray) : Prop := l.Pairwise (fun x y => cmpN x y < 0)
theorem sortB_strict {l : List ByteArray} (h : l.Nodup) : StrictN (sortB l) := by
  have h1 := sortB_le l
  have h2 : (sortB l).Nodup := (sortB_perm l).nodup_iff.2 h
  refine List.Pairwise.imp ?_ (h1.and h2)
  intro a b hab
  have h3 := cmpN_neg a b
  by_cases e : cmpN a b = 0
  · exact absurd (cmpN_eq e) hab.2
  · have := hab.1
    omega
theorem strict_unique {l m : List ByteArray} (h1 : StrictN l) (h2 : StrictN m) (h : l.Perm m) : l = m :=
  perm_sorted_eq (r := fun x y => cmpN x y < 0) (fun x y a b => by have := cmpN_neg x y; omega) h h1 h2
theorem putN_strict {l : List ByteArray} {s : ByteArray} (h : StrictN l) : StrictN (putN l s) := by
  unfold StrictN putN
  rw [List.pairwise_append, List.pairwise_cons]
  refine ⟨h.sublist List.filter_sublist, ⟨fun a ha => by simpa using (List.mem_filter.1 ha).2, h.sublist List.filter_sublist⟩, fun a ha b hb => ?_⟩
  have h1 : cmpN a s < 0 := by simpa using (List.mem_filter.1 ha).2
  rcases List.mem_cons.1 hb with rfl | hb
  · exact h1
  · have h2 : cmpN s b < 0 := by simpa using (List.mem_filter.1 hb).2
    exact cmpN_trans h1 h2
theorem putN_perm {l : List ByteArray} {s : ByteArray} (h : s ∉ l) : (putN l s).Perm (s :: l) := by
  unfold putN
  refine List.perm_middle.trans (List.Perm.cons s ?_)
  have e : l.filter (fun x => decide (cmpN s x < 0)) = l.filter (fun x => !decide (cmpN x s < 0)) := by
    refine List.filter_congr fun x hx => ?_
    have h1 := cmpN_neg x s
    have h2 : cmpN x s ≠ 0 := fun e => h (by rw [← cmpN_eq e]; exact hx)
    by_cases h3 : cmpN x s < 0
    · have h4 : ¬ cmpN s x < 0 := by omega
      simp [h3, h4]
    · have h4 : cmpN s x < 0 := by omega
      simp [h3, h4]
  rw [e]
  exact List.filter_append_perm _ l
theorem putN_sortB {l : List ByteArray} {s : ByteArray} (h : (l ++ [s]).Nodup) : putN (sortB l) s = sortB (l ++ [s]) := by
  have h1 : l.Nodup := (List.nodup_append.1 h).1
  have h2 : s ∉ sortB l := fun hm => by
    have hm := (sortB_perm l).mem_iff.1 hm
    exact (List.nodup_append.1 h).2.2 s hm s (by simp) rfl
  refine strict_unique (putN_strict (sortB_strict h1)) (sortB_strict h) ?_
  refine (putN_perm h2).trans ?_
  refine ((sortB_perm l).cons s).trans ?_
  refine List.Perm.trans ?_ (sortB_perm (l ++ [s])).symm
  exact (List.perm_append_singleton s l).symm
theorem sortB_nil : sortB [] = [] := List.eq_nil_of_length_eq_zero (sortB_len [])
theorem putN_len (l : List ByteArray) (s : ByteArray) : (putN l s).length ≤ 2 * l.length + 1 := by
  unfold putN
  rw [List.length_append, List.length_cons]
  have h1 := List.length_filter_le (fun x => decide (cmpN x s < 0)) l
  have h2 := List.length_filter_le (fun x => decide (cmpN s x < 0)) l
  omega

set_option maxRecDepth 100000 in
set_option maxHeartbeats 2000000 in
theorem putN_any (w : World) (v : Value) (l : List ByteArray) (s : ByteArray) (hv : Rd w w.heap.size encS 1 v l) (hlen : l.length ≤ 439804651098) :
    Calls Try.prog 86 #[v, .string s] w (IdsRet w (putN l s)) := by
  obtain ⟨p, c, rfl, hlc, hcm⟩ := rd_len hv
  have HV := Lib.hid hv
  obtain ⟨n, hn⟩ : ∃ n, l.length = n := ⟨_, rfl⟩
  have HN := Lib.hid hn
  have hno : n ≤ 439804651098 := by omega
  rw [hn]
  clear hv hlen hlc hcm hn
  go_enter Try.func86, Try.ntmps86
  go_wp2_with fail
  go_loopw [5, 6] (fun o i wr => ∃ k : Nat, k ≤ n ∧ i = .int .i64 k ∧ Hid (Own wr w.heap.size 9 encS 1 o ((l.take k).filter (fun x => decide (cmpN x s < 0)))) ∧ Below w.heap.size w wr) (fun _ i _ => n - (intOf i).toNat)
  case atStart => exact ⟨0, Nat.zero_le _, rfl, Own.nil _ _ _, Below.refl _ _⟩
  case round =>
    obtain ⟨k, hk, rfl, hown, hbr⟩ := hrel
    by_cases hlt : k < n
    · obtain ⟨x, hx⟩ : ∃ x, l[k]? = some x := ⟨_, List.getElem?_eq_getElem (by have := HN.out; omega)⟩
      obtain ⟨b1, o1, rfl, hb1, hc1⟩ := rd_at' (HV.out.below hbr (Nat.le_refl _)) hx
      have f0 := hc1 0 _ rfl
      rw [Nat.add_zero, Nat.mul_one] at f0
      have hk0 : (0 : Int) ≤ (k : Int) := Int.natCast_nonneg _
      have hk1 : (k : Int) < (n : Int) := by omega
      have hless := less_cmp x s
      have hsn : (l.take (k + 1)).filter (fun x => decide (cmpN x s < 0)) = (l.take k).filter (fun x => decide (cmpN x s < 0)) ++ (if cmpN x s < 0 then [x] else []) := by
        rw [List.take_add_one, hx, List.filter_append]
        by_cases h : cmpN x s < 0 <;> simp [h]
      have HSN := Lib.hid hsn
      have HBR := Lib.hid hbr
      by_cases hc : cmpN x s < 0
      · have hl : Op.bytesLess x.toList s.toList = true := by rw [hless]; simpa using hc
        have HC := Lib.hid hc
        have HO2 := Lib.hid (hown.out.alloc (.cells #[.string x] 9))
        have HB2 := Lib.hid (hbr.alloc hbr.size (.cells #[.string x] 9))
        have HR2 : Hid (Rd (wr.alloc (.cells #[.string x] 9)) (wr.heap.size + 1) encS 1 (.slice (some ⟨wr.heap.size, 0, none⟩) 1 1) [x]) := Rd.one codecS (heap_alloc_at rfl) rfl (by omega)
        have hll : ((l.take k).filter (fun x => decide (cmpN x s < 0))).length ≤ 439804651098 := by
          have h1 := List.length_filter_le (fun x => decide (cmpN x s < 0)) (l.take k)
          rw [List.length_take] at h1
          omega
        have HL := Lib.hid hll
        clear hx hc1 hbr hsn hown hc hless hll
        go_wp2_with (at_builtin; refine wpList_append_rd slS codecS _ rfl _ _ rfl rfl rfl HO2.out HR2.out (by have := HL.out; simp only [List.length_singleton]; unfold maxLen; omega) (by have := HL.out; simp only [List.length_singleton]; omega) (by have := HBR.out.size; simp; omega) ?_; intro v1 w1 ho1 hg1 hat1)
        go_roundw
        case rel => exact ⟨k + 1, by omega, by go_num, by unfold Hid; rw [HSN.out, if_pos HC.out]; exact ho1, Below.appended HB2.out hg1 HO2.out HB2.out.size⟩
        case measure => simp [intOf]; omega
      · have hl : Op.bytesLess x.toList s.toList = false := by rw [hless]; simpa using hc
        have HC := Lib.hid hc
        clear hx hc1 hbr hsn hc hless
        go_wp2_with fail
        go_roundw
        case rel => exact ⟨k + 1, by omega, by go_num, by unfold Hid; rw [HSN.out, if_neg HC.out, List.append_nil]; exact hown.out, HBR.out⟩
        case measure => simp [intOf]; omega
    · obtain rfl : k = n := by omega
      rw [List.take_of_length_le (by have := HN.out; omega)] at hown
      have HO2 := Lib.hid (hown.out.alloc (.cells #[.string s] 9))
      have HB2 := Lib.hid (hbr.alloc hbr.size (.cells #[.string s] 9))
      have HR2 : Hid (Rd (wr.alloc (.cells #[.string s] 9)) (wr.heap.size + 1) encS 1 (.slice (some ⟨wr.heap.size, 0, none⟩) 1 1) [s]) := Rd.one codecS (heap_alloc_at rfl) rfl (by omega)
      have hll : (l.filter (fun x => decide (cmpN x s < 0))).length ≤ 439804651098 := by
        have h1 := List.length_filter_le (fun x => decide (cmpN x s < 0)) l
        have := HN.out
        omega
      have HL := Lib.hid hll
      have HBR := Lib.hid hbr
      clear hbr hown hll
      go_wp2_with (at_builtin; refine wpList_append_rd slS codecS _ rfl _ _ rfl rfl rfl HO2.out HR2.out (by have := HL.out; simp only [List.length_singleton]; unfold maxLen; omega) (by have := HL.out; simp only [List.length_singleton]; omega) (by have := HBR.out.size; simp; omega) ?_; intro v1 w1 ho1 hg1 hat1)
      have HB1 := Lib.hid (Below.appended HB2.out hg1 HO2.out HB2.out.size)
      have HO1 := Lib.hid ho1
      clear hg1 hat1 ho1
      go_loopw [5, 7] (fun o i wr => ∃ j : Nat, j ≤ k ∧ i = .int .i64 j ∧ Hid (Own wr w.heap.size 9 encS 1 o (l.filter (fun x => decide (cmpN x s < 0)) ++ [s] ++ (l.take j).filter (fun x => decide (cmpN s x < 0)))) ∧ Below w.heap.size w wr) (fun _ i _ => k - (intOf i).toNat)
      case atStart => exact ⟨0, Nat.zero_le _, rfl, by simpa [Hid] using HO1.out, HB1.out⟩
      case round =>
        obtain ⟨j, hj, rfl, hown, hbr⟩ := hrel
        by_cases hlt : j < k
        · obtain ⟨x, hx⟩ : ∃ x, l[j]? = some x := ⟨_, List.getElem?_eq_getElem (by have := HN.out; omega)⟩
          obtain ⟨b1, o1, rfl, hb1, hc1⟩ := rd_at' (HV.out.below hbr (Nat.le_refl _)) hx
          have f0 := hc1 0 _ rfl
          rw [Nat.add_zero, Nat.mul_one] at f0
          have hk0 : (0 : Int) ≤ (j : Int) := Int.natCast_nonneg _
          have hk1 : (j : Int) < (k : Int) := by omega
          have hless := less_cmp x s
          have hbeq := str_beq x s
          have hcn := cmpN_neg x s
          have hsn : (l.take (j + 1)).filter (fun x => decide (cmpN s x < 0)) = (l.take j).filter (fun x => decide (cmpN s x < 0)) ++ (if cmpN s x < 0 then [x] else []) := by
            rw [List.take_add_one, hx, List.filter_append]
            by_cases h : cmpN s x < 0 <;> simp [h]
          have HSN := Lib.hid hsn
          have HBR := Lib.hid hbr
          by_cases hc : cmpN s x < 0
          · have hl : Op.bytesLess x.toList s.toList = false := by rw [hless]; simp; omega
            have hq : (x.toList == s.toList) = false := by
              rw [hbeq]
              simp
              intro e
              rw [e, cmpN_self] at hc
              omega
            have HC := Lib.hid hc
            have HO2 := Lib.hid (hown.out.alloc (.cells #[.string x] 9))
            have HB2 := Lib.hid (hbr.alloc hbr.size (.cells #[.string x] 9))
            have HR2 : Hid (Rd (wr.alloc (.cells #[.string x] 9)) (wr.heap.size + 1) encS 1 (.slice (some ⟨wr.heap.size, 0, none⟩) 1 1) [x]) := Rd.one codecS (heap_alloc_at rfl) rfl (by omega)
            have hll : (l.filter (fun x => decide (cmpN x s < 0)) ++ [s] ++ (l.take j).filter (fun x => decide (cmpN s x < 0))).length ≤ 879609302200 := by
              have h1 := List.length_filter_le (fun x => decide (cmpN s x < 0)) (l.take j)
              have h2 := List.length_filter_le (fun x => decide (cmpN x s < 0)) l
              have h3 := HN.out
              rw [List.length_take] at h1
              rw [List.length_append, List.length_append, List.length_singleton]
              omega
            have HL := Lib.hid hll
            clear hx hc1 hbr hsn hown hc hless hll hbeq hcn
            go_wp2_with (at_builtin; refine wpList_append_rd slS codecS _ rfl _ _ rfl rfl rfl HO2.out HR2.out (by have := HL.out; simp only [List.length_singleton]; unfold maxLen; omega) (by have := HL.out; simp only [List.length_singleton]; omega) (by have := HBR.out.size; simp; omega) ?_; intro v1 w1 ho1 hg1 hat1)
            go_roundw
            case rel => exact ⟨j + 1, by omega, by go_num, by unfold Hid; rw [HSN.out, if_pos HC.out, ← List.append_assoc]; exact ho1, Below.appended HB2.out hg1 HO2.out HB2.out.size⟩
            case measure => simp [intOf]; omega
          · have hor : Op.bytesLess x.toList s.toList = true ∨ (Op.bytesLess x.toList s.toList = false ∧ (x.toList == s.toList) = true) := by
              by_cases h : cmpN x s < 0
              · left; rw [hless]; simpa using h
              · right
                refine ⟨by rw [hless]; simpa using h, ?_⟩
                rw [hbeq]
                simp
                exact cmpN_eq (by omega)
            have HC := Lib.hid hc
            clear hx hc1 hbr hsn hc hless hbeq hcn
            rcases hor with h1 | ⟨h1, h2⟩
            all_goals
              go_wp2_with fail
              go_roundw
              case rel => exact ⟨j + 1, by omega, by go_num, by unfold Hid; rw [HSN.out, if_neg HC.out, List.append_nil]; exact hown.out, HBR.out⟩
              case measure => simp [intOf]; omega
        · obtain rfl : j = k := by omega
          rw [List.take_of_length_le (by have := HN.out; omega)] at hown
          go_wp2_with fail
          go_ret
          refine ⟨_, rfl, ?_, hbr⟩
          have h := hown.out
          unfold putN
          rw [List.append_assoc] at h
          exact h
end Go.Proofs.Ythgkgjcnmahacaa
end

section
/- What changed: each id once; told step by step. -/
set_option linter.unusedSimpArgs false
set_option linter.unusedVariables false
namespace Go.Proofs.Ythgkgjcnmahacaa
open Go.RowKit Go.OpenShut

theorem updP_id' (e : En) (p : Pa) : (updP e p).id = p.id := by unfold updP; split <;> rfl
theorem sinceL_nodup (sq : Int) : ∀ l : List En, ((sinceL sq l).map (·.id)).Nodup
  | [] => by simp [sinceL]
  | e :: r => by
    have ih := sinceL_nodup sq r
    rw [sinceL_cons]
    split
    · exact ih
    · split
      · rw [List.map_map]
        have e1 : ((fun x : Pa => x.id) ∘ updP e) = (fun x : Pa => x.id) := by funext p; exact updP_id' e p
        rw [e1]
        exact ih
      · rename_i h1 h2
        rw [List.map_cons, List.nodup_cons]
        refine ⟨fun hm => h2 ?_, ih⟩
        obtain ⟨p, hp, he⟩ := List.mem_map.1 hm
        simp only [List.any_eq_true, decide_eq_true_eq]
        exact ⟨p, hp, by rw [he]; rfl⟩
theorem stable_nodup {sq : Int} {l : List En} {ys : List Pa} (h : IsStable cfP (sinceL sq l) ys) : (ys.map (·.id)).Nodup := (h.perm.map _).nodup_iff.2 (sinceL_nodup sq l)
theorem toldP_snoc (l : List Pa) (x : Pa) : toldP (l ++ [x]) = toldP l ++ (if noneP x = true then [] else [x]) := by
  unfold toldP
  rw [List.filter_append]
  cases h : noneP x <;> simp [h]
theorem idsW_nodup {l : List Pa} (k : Int) (h : (l.map (·.id)).Nodup) : (idsW k l).Nodup := by
  unfold idsW
  exact h.sublist (List.filter_sublist.map _)
theorem told_nodup {ys : List Pa} (h : (ys.map (·.id)).Nodup) (j : Nat) : ((toldP (ys.take j)).map (·.id)).Nodup := by
  unfold toldP
  exact h.sublist ((List.filter_sublist.trans (List.take_sublist j ys)).map _)
theorem told_take {ys : List Pa} {j : Nat} {x : Pa} (hx : ys[j]? = some x) : toldP (ys.take (j + 1)) = toldP (ys.take j) ++ (if noneP x = true then [] else [x]) := by
  rw [List.take_add_one, hx]
  exact toldP_snoc _ x
/-- An id of a kind, put. -/
theorem put_told {ys : List Pa} (hn : (ys.map (·.id)).Nodup) {j : Nat} {x : Pa} (hx : ys[j]? = some x) {k : Int} (hk : whatP x = k) (h0 : k ≠ 0) : putN (sortB (idsW k (toldP (ys.take j)))) x.id = sortB (idsW k (toldP (ys.take (j + 1)))) := by
  have h1 : noneP x = false := by unfold noneP; simp [hk, h0]
  have e : idsW k (toldP (ys.take (j + 1))) = idsW k (toldP (ys.take j)) ++ [x.id] := by
    rw [told_take hx, h1, if_neg (by decide), idsW_snoc, if_pos hk]
  have hd := idsW_nodup k (told_nodup hn (j + 1))
  rw [e] at hd ⊢
  exact putN_sortB hd
theorem keep_told {ys : List Pa} {j : Nat} {x : Pa} (hx : ys[j]? = some x) {k : Int} (hk : whatP x ≠ k) : idsW k (toldP (ys.take (j + 1))) = idsW k (toldP (ys.take j)) := by
  rw [told_take hx]
  split
  · rw [List.append_nil]
  · rw [idsW_snoc, if_neg hk, List.append_nil]
theorem lastP_snoc (l : List Pa) (x : Pa) : lastP (l ++ [x]) = x.last := by simp [lastP]
theorem told_len {ys : List Pa} {j : Nat} : (toldP (ys.take j)).length ≤ ys.length := by
  unfold toldP
  refine Nat.le_trans (List.length_filter_le _ _) ?_
  rw [List.length_take]
  exact Nat.min_le_right _ _
theorem sncD_more {ys : List Pa} {seq most : Int} {j : Nat} {x : Pa} (hx : ys[j]? = some x) (h0 : whatP x ≠ 0) (h1 : 0 < most) (h2 : ((toldP (ys.take j)).length : Int) = most) :
    sncD seq ys most = ⟨sortB (idsW 1 (toldP (ys.take j))), sortB (idsW 2 (toldP (ys.take j))), sortB (idsW 3 (toldP (ys.take j))), lastP (toldP (ys.take j)), true⟩ := by
  have hs : toldP ys = toldP (ys.take j) ++ x :: toldP (ys.drop (j + 1)) := by
    have e : ys = ys.take j ++ x :: ys.drop (j + 1) := by
      have hj := (List.getElem?_eq_some_iff.1 hx)
      obtain ⟨hj, he⟩ := hj
      rw [← he, List.getElem_cons_drop, List.take_append_drop]
    have h3 : noneP x = false := by unfold noneP; simp [h0]
    unfold toldP
    conv => lhs; rw [e]
    rw [List.filter_append, List.filter_cons, h3]
    simp
  have hm : moreP ys most = true := by
    unfold moreP
    rw [hs, List.length_append, List.length_cons]
    simp
    omega
  have hc : cutP ys most = toldP (ys.take j) := by
    unfold cutP
    rw [if_pos hm, hs]
    have e : most.toNat = (toldP (ys.take j)).length := by omega
    rw [e, List.take_left]
  unfold sncD
  rw [hc, hm, if_pos rfl]
theorem sncD_all {ys : List Pa} {seq most : Int} (h : 0 < most → ((toldP ys).length : Int) ≤ most) :
    sncD seq ys most = ⟨sortB (idsW 1 (toldP ys)), sortB (idsW 2 (toldP ys)), sortB (idsW 3 (toldP ys)), seq, false⟩ := by
  have hm : moreP ys most = false := by
    unfold moreP
    by_cases h0 : 0 < most
    · have := h h0
      simp
      omega
    · simp
      omega
  have hc : cutP ys most = toldP ys := by unfold cutP; rw [hm]; rfl
  unfold sncD
  rw [hc, hm]
  rfl
end Go.Proofs.Ythgkgjcnmahacaa
end

section
/- The law's example of a box and what changed in it: plain facts. -/
set_option linter.unusedSimpArgs false
set_option linter.unusedVariables false
namespace Go.Proofs.Ythgkgjcnmahacaa
open Go.RowKit Go.OpenShut

/-- Null. -/
def nulT : JV := JV.mk 1 0 ⟨#[]⟩ [] []
def zerT : JV := JV.mk 0 0 ⟨#[]⟩ [] []
def nulR : RV := ⟨1, 0, ⟨#[]⟩, none, 0, 0, none, 0, 0⟩
def awOps : List (RO × JV) := [(⟨1, nA, nulR⟩, nulT), (⟨1, nB, nulR⟩, nulT), (⟨1, nC, nulR⟩, nulT), (⟨2, nA, RV.zero⟩, zerT)]
def b19 : BoxD := ⟨[(nB, nulT), (nC, nulT)], [⟨1, nA, 1⟩, ⟨2, nB, 1⟩, ⟨3, nC, 1⟩, ⟨4, nA, 3⟩], 4, 0, 9⟩
def b19_1 : BoxD := ⟨[(nA, nulT)], [⟨1, nA, 1⟩], 1, 0, 9⟩
def b19_2 : BoxD := ⟨[(nA, nulT), (nB, nulT)], [⟨1, nA, 1⟩, ⟨2, nB, 1⟩], 2, 0, 9⟩
def b19_3 : BoxD := ⟨[(nA, nulT), (nB, nulT), (nC, nulT)], [⟨1, nA, 1⟩, ⟨2, nB, 1⟩, ⟨3, nC, 1⟩], 3, 0, 9⟩
theorem act19_1 : doesB ⟨[], [], 0, 0, 9⟩ 1 nA nulT = b19_1 := by
  have h : putB ⟨[], [], 0, 0, 9⟩ nA nulT = (b19_1, 0) := by
    unfold putB
    rw [if_neg (by decide), if_neg (by decide), if_neg (by decide)]
    rfl
  unfold doesB actB
  rw [if_pos rfl, h, if_pos rfl]
theorem act19_2 : doesB b19_1 1 nB nulT = b19_2 := by
  have h : putB b19_1 nB nulT = (b19_2, 0) := by
    unfold putB
    rw [if_neg (by decide), if_neg (by decide), if_neg (by decide)]
    rfl
  unfold doesB actB
  rw [if_pos rfl, h, if_pos rfl]
theorem act19_3 : doesB b19_2 1 nC nulT = b19_3 := by
  have h : putB b19_2 nC nulT = (b19_3, 0) := by
    unfold putB
    rw [if_neg (by decide), if_neg (by decide), if_neg (by decide)]
    rfl
  unfold doesB actB
  rw [if_pos rfl, h, if_pos rfl]
theorem act19_4 : doesB b19_3 2 nA zerT = b19 := by
  have h : dropB b19_3 nA = (b19, 0) := by
    unfold dropB
    rw [if_neg (by decide), if_neg (by decide)]
    rfl
  unfold doesB actB
  rw [if_neg (show ¬ (2 : Int) = 1 by decide), if_pos rfl, h, if_pos rfl]
theorem play19 : playB ⟨[], [], 0, 0, 9⟩ awOps = b19 := by
  show doesB (doesB (doesB (doesB ⟨[], [], 0, 0, 9⟩ 1 nA nulT) 1 nB nulT) 1 nC nulT) 2 nA zerT = b19
  rw [act19_1, act19_2, act19_3, act19_4]
theorem bare_ok (k : Int) (hk : (Lit.int .i64 k).wf = true) : (JV.mk k 0 ⟨#[]⟩ [] []).Ok := by
  exact .mk hk (by decide) (by decide) (by decide) (by decide) (fun i x h => by simp at h) (fun i p h => by simp at h) (fun i p h => by simp at h)
theorem bare_tree0 (w : World) (k : Int) : TreeOf w 0 (JV.mk k 0 ⟨#[]⟩ [] []) ⟨k, 0, ⟨#[]⟩, none, 0, 0, none, 0, 0⟩ :=
  TreeOf.mk (r := ⟨k, 0, ⟨#[]⟩, none, 0, 0, none, 0, 0⟩) (rs := []) (rms := []) (Rd.nil _ _) rfl (fun i t q h => by simp at h) (Rd.nil _ _) rfl (fun i p q h => by simp at h) (fun i p q h => by simp at h)
theorem awOps_ok (w : World) (B : Nat) : ∀ o ∈ awOps, TreeOf w B o.2 o.1.v ∧ OpOk o.1 o.2 := by
  intro o ho
  simp only [awOps, List.mem_cons, List.not_mem_nil, or_false] at ho
  rcases ho with rfl | rfl | rfl | rfl
  · exact ⟨(bare_tree0 w 1).mono (Nat.zero_le _), by show nA.size ≤ _; decide, bare_ok 1 (by decide)⟩
  · exact ⟨(bare_tree0 w 1).mono (Nat.zero_le _), by show nB.size ≤ _; decide, bare_ok 1 (by decide)⟩
  · exact ⟨(bare_tree0 w 1).mono (Nat.zero_le _), by show nC.size ≤ _; decide, bare_ok 1 (by decide)⟩
  · exact ⟨(bare_tree0 w 0).mono (Nat.zero_le _), by show nA.size ≤ _; decide, bare_ok 0 (by decide)⟩
theorem good0 : Good ⟨[], [], 0, 0, 9⟩ 0 0 := ⟨⟨by decide, fun p h => by simp at h, by decide, by decide, by decide, by decide⟩, fun x h => by simp at h, List.Pairwise.nil, Nat.le_refl _, Nat.le_refl _⟩
theorem b19_ok : b19.Ok := ⟨by decide, fun p h => by simp [b19] at h; rcases h with rfl | rfl <;> exact ⟨by decide, bare_ok _ (by decide)⟩, by decide, by decide, by decide, by decide⟩
/-- A list that rises by what came last is stable. -/
theorem stable_rise : ∀ l : List Pa, l.Pairwise (fun x y => x.last < y.last) → IsStable cfP l l := by
  intro l
  rw [← List.reverse_reverse l]
  induction l.reverse with
  | nil => intro _; exact IsStable.nil
  | cons p r ih =>
    intro h
    rw [List.reverse_cons] at h ⊢
    have h1 := List.pairwise_append.1 h
    have h2 := IsStable.snoc cmpP (A := r.reverse) (B := []) (xs := r.reverse) (p := p) (by rw [List.append_nil]; exact ih h1.1) (fun a ha => by
      have h3 := h1.2.2 a (List.mem_of_getLast? ha) p (by simp)
      unfold cfP
      rw [if_neg (by omega), if_pos h3]
      decide) (fun b hb => by simp at hb)
    exact h2
def ys0 : List Pa := [⟨nB, false, true, 2⟩, ⟨nC, false, true, 3⟩, ⟨nA, false, false, 4⟩]
def ys1 : List Pa := [⟨nB, false, true, 2⟩, ⟨nC, false, true, 3⟩, ⟨nA, true, false, 4⟩]
theorem since0 : sinceL 0 b19.trail = ys0 := by rfl
theorem since1 : sinceL 1 b19.trail = ys1 := by rfl
theorem ys0_of {ys : List Pa} (h : IsStable cfP (sinceL 0 b19.trail) ys) : ys = ys0 := by
  rw [since0] at h
  exact IsStable.unique cmpP h (stable_rise ys0 (by unfold ys0; simp))
theorem ys1_of {ys : List Pa} (h : IsStable cfP (sinceL 1 b19.trail) ys) : ys = ys1 := by
  rw [since1] at h
  exact IsStable.unique cmpP h (stable_rise ys1 (by unfold ys1; simp))
theorem sortB_strict' {l : List ByteArray} (h : StrictN l) : sortB l = l := by
  have hn : l.Nodup := h.imp fun {a b} hab e => by rw [e, cmpN_self] at hab; omega
  exact strict_unique (sortB_strict hn) h (sortB_perm l)
theorem snc0 : sncD b19.seq ys0 1 = ⟨[nB], [], [], 2, true⟩ := by
  have h1 : sncD b19.seq ys0 1 = ⟨sortB [nB], sortB [], sortB [], 2, true⟩ := rfl
  rw [h1, sortB_nil, sortB_strict' (List.pairwise_singleton _ _)]
theorem snc1 : sncD b19.seq ys1 0 = ⟨[nB, nC], [], [nA], 4, false⟩ := by
  have h1 : sncD b19.seq ys1 0 = ⟨sortB [nB, nC], sortB [], sortB [nA], 4, false⟩ := rfl
  rw [h1, sortB_nil, sortB_strict' (List.pairwise_singleton _ _), sortB_strict' (by unfold StrictN; simp; decide)]
end Go.Proofs.Ythgkgjcnmahacaa
end
